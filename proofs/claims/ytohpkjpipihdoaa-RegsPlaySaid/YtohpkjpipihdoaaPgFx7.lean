/- The document's registers: put. The document's registers: cut. Where registers 1 to 9 go; what a cut leaves alone: plain. The map of registers and the document's say the same; plain. A file of registers as the document's. The cases of an action; plain. -/
import Derived.Test.YtohpkjpipihdoaaPgFx6
namespace Go.Pg
open Go Go.Proofs

def xPut (z : Rgs) (b : UInt8) (r : RgV) : Int × Rgs :=
  if (namedR z b r).2.2 = true then (if lsz (namedR z b r).2.1.2 > 4096 then (21, z) else (0, zSet (namedR z b r).1 (namedR z b r).2.1 z)) else (23, z)
theorem cXPut : CtrOK Try.prog [(43, kXGet), (30, kXJoin), (32, kLSize), (56, kXSet)] :=
  CtrOK.cons ok_XGet (CtrOK.cons ok_XJoin (CtrOK.cons ok_LSizeR (CtrOK.cons ok_XSet (CtrOK.nil _))))
set_option maxRecDepth 20000 in
set_option maxHeartbeats 8000000 in
theorem calls_XPut (z : Rgs) (b : UInt8) (r : RgV) (hst : stockR z) (hr : okArg r) (hn : z.length ≤ 1000) :
    CallsR Try.prog 40 [.ptr 0 2 1 0 0, .int .u8 b.toNat, aRg r] (xH (zNr z) (zPr z))
      (.int .i64 (xPut z b r).1) (xH' (zNr (xPut z b r).2) (zPr (xPut z b r).2)) := by
  refine callsR_of (mrg := true) (dyn := [4]) (cXPut) mixed Try.func40 rfl (by simp [Try.ntmps40]) (by kernel_rfl) ?_
  rw [show Try.f40.results.toList = [.tmp 6] from by kernel_rfl]
  obtain ⟨rk, rl⟩ := r
  have hrf : fitR rl := okArg_fit hr
  have hf := namedR_fit hst b hr
  have c1 := up_eq b
  have c2 := low_eq b
  unfold xPut
  cases hu : isUp b with
  | true =>
    rw [hu] at c1
    have hw := up_wrap hu
    have hg := gname_up hu
    have hlo := up_low hu
    cases hk : look1 (b + 32) z with
    | none =>
      have hnm : namedR z b (rk, rl) = (b + 32, (rk, rl), true) := by
        unfold namedR
        rw [if_neg (by rw [hlo]; simp), if_pos hu, hk]
      rw [hnm, if_pos rfl]
      rw [hnm] at hf
      by_cases hz : lsz rl > 4096
      · have cz : decide (lsz rl > 4096) = true := decide_eq_true hz
        rw [if_pos hz]
        simp (maxSteps := 4000000) only [↓wpA_H, ↓wpH_skip, ↓wpH_ret, ↓wpH_seq, ↓wpH_cond, ↓wpH_block, ↓wpH_region, ↓iselH_true, ↓iselH_false, bselH_false, runH_nil, runH_cons, gw, gselH_plain, gselH_if, kselH_1, cselH_bool, gkind, ↓chk, justK, noW, ↓oneK, ↓pureK, ↓heapK, envOf, ↓thenA_normal, ↓thenA_ret, ↓blockA_normal, ↓stepEv, opnd, Pg.look, binK, intOp, dstOf, Bool.and_true, Bool.not_false, Bool.false_eq_true, false_implies, implies_true, imp_self, true_and, and_true, pickC, pickV, unc, gof, mux, mergeK, condsL, valV, heapV, footV, binV, intV, alives, aliveO, nxtQ, hdS, pairsA, frzA, closeQ_nil, closeQ_succ, diagQ_zero, diagQ_succ, Nat.reduceAdd, mergeable, look_stripE, ofV, ofLeaf, sameK, retA, resK, tupA, subA, subQ, ptrsE, pairsO, frzO, subF, subG, pickOf, assocN, pairsE, pairsC, pairsL, pairs0, frzE, frzC, frzL, frz0, frzH, Pg.freeze, List.foldl_nil, subOs, subO, subEv, subV_succ, subM, ldCells, objAt, ↓callT, callC, callV, callH, normArgs, normA, normC, resL, res8_eq, res_succ, resM, shiftR, shift1, AV.cells, TK.cells, AV.definite, AV.leaf, AV.leafy, AV.pureLeaf, AV.pureB, putCells, lay, Op.operands, List.getElem?_toArray, List.getElem?_cons_succ, List.getElem?_cons_zero, Option.bind_some, Option.getD_some, Option.getD_none, reduceCtorEq, Nat.reduceEqDiff, Nat.reduceAdd, Nat.reduceLT, Nat.reduceSub, List.nil_append, List.append_nil, List.cons_append, List.length_cons, List.length_nil, List.map_cons, List.map_nil, List.set_cons_zero, List.set_cons_succ, Nat.zero_add, ite_true, ite_false, Option.some.injEq, Option.isSome_none, Prod.mk.injEq, Bool.if_false_right, decide_eq_true_eq, decide_eq_false_iff_not, Int.not_le, List.all_cons, List.all_nil, Bool.and_self, and_self, exists_eq_left', List.length_map, List.toList_toArray, length_ofBytes, cByte_dec, decL_byte, cSl_dec, lOne_dec, lCons_dec, pureB_bytes, List.contains_cons, List.contains_nil, Nat.reduceBEq, Bool.or_self, List.range'_zero, decL_str, C1by_ns, C1by_pre, C1by_r, C1by_H, optP_some, optV_some, optH_some, List.getD_cons_zero, List.getD_cons_succ, List.drop_succ_cons, List.take_zero, Nat.sub_self, Nat.le_refl, Nat.lt_irrefl, List.drop_nil, Nat.zero_lt_succ, C1by_it, regH_none, isNext, nextF, nextG, selC_false, ↓msel, muC, ↓callP, ↓callU, ↓callUV, ↓callUH, ↓callUF, C1by_mu, C1mby_mu, runM_eq, mkM_some, hNil_dec, hCons_dec, app3_some, hP_dec, hP1_some, hP2_some, hO1_some, hO2_arr, hOwn_dec, hB1_some, hB2_arr, hBox_dec, hAgg_dec, pickF, nodupB, somes, fresh, gids, gid, putO, ren, renL, renO, tk50, tk52, tz52, dz52, kXGet, kXJoin, kLSize, kXSet, hXf, decL_aRs, length_aRs, pureB_aRs, renL_aRs, renL_bytes, List.length_map, zip_self, xH, xH', c1, hw, hg, hk, cz]
        refine ⟨by omega, hrf, ?_⟩
        (repeat' first | exact rfl | apply And.intro | exact subX_eq rfl (pureB_bytes _) | exact subX_eq rfl (pureB_aPs _) | exact subX_eq rfl rfl | decide | omega | apply subX_one)
        all_goals try simp (maxSteps := 4000000) only [subL]
        all_goals exact subX_eq rfl (pureB_aRs _)
      · have cz : decide (lsz rl > 4096) = false := decide_eq_false hz
        rw [if_neg hz]
        simp (maxSteps := 4000000) only [↓wpA_H, ↓wpH_skip, ↓wpH_ret, ↓wpH_seq, ↓wpH_cond, ↓wpH_block, ↓wpH_region, ↓iselH_true, ↓iselH_false, bselH_false, runH_nil, runH_cons, gw, gselH_plain, gselH_if, kselH_1, cselH_bool, gkind, ↓chk, justK, noW, ↓oneK, ↓pureK, ↓heapK, envOf, ↓thenA_normal, ↓blockA_normal, ↓stepEv, opnd, Pg.look, binK, intOp, dstOf, Bool.and_true, Bool.not_false, Bool.false_eq_true, false_implies, implies_true, imp_self, true_and, and_true, pickC, pickV, unc, gof, mux, mergeK, condsL, valV, heapV, footV, binV, intV, alives, aliveO, nxtQ, hdS, pairsA, frzA, closeQ_nil, closeQ_succ, diagQ_zero, diagQ_succ, Nat.reduceAdd, mergeable, look_stripE, ofV, ofLeaf, sameK, retA, resK, tupA, subA, subQ, ptrsE, pairsO, frzO, subF, subG, pickOf, assocN, pairsE, pairsC, pairsL, pairs0, frzE, frzC, frzL, frz0, frzH, Pg.freeze, List.foldl_nil, subOs, subO, subEv, subV_succ, subM, ldCells, objAt, ↓callT, callC, callV, callH, normArgs, normA, normC, normL, resL, res8_eq, res_succ, resM, shiftR, shift1, AV.cells, TK.cells, AV.definite, AV.leaf, AV.leafy, AV.pureLeaf, AV.pureB, putCells, lay, Op.operands, List.getElem?_toArray, List.getElem?_cons_succ, List.getElem?_cons_zero, Option.bind_some, Option.getD_some, Option.getD_none, reduceCtorEq, Nat.reduceEqDiff, Nat.reduceAdd, Nat.reduceLT, Nat.reduceSub, List.nil_append, List.append_nil, List.cons_append, List.length_cons, List.length_nil, List.map_cons, List.map_nil, List.set_cons_zero, List.set_cons_succ, Nat.zero_add, ite_true, ite_false, Option.some.injEq, Option.isSome_none, Prod.mk.injEq, Bool.if_false_right, decide_eq_true_eq, decide_eq_false_iff_not, Int.not_le, List.all_cons, List.all_nil, Bool.and_self, and_self, exists_eq_left', List.length_map, cInt_dec, List.toList_toArray, length_ofBytes, cByte_dec, decL_byte, cSl_dec, cAgg_dec, lOne_dec, lCons_dec, dec2_some, pureB_bytes, List.contains_cons, List.contains_nil, Nat.reduceBEq, Bool.or_self, List.range'_zero, decL_str, C1by_ns, C1by_pre, C1by_r, C1by_H, optP_some, optV_some, optH_some, List.getD_cons_zero, List.getD_cons_succ, cutL, List.drop_zero, List.drop_succ_cons, List.take_succ_cons, List.take_zero, Nat.sub_zero, Nat.sub_self, Nat.le_refl, Nat.lt_irrefl, List.drop_nil, List.take_nil, Nat.zero_lt_succ, C1by_it, regH_none, isNext, nextF, nextG, selC_false, ↓msel, muC, ↓callP, ↓callU, ↓callUV, ↓callUH, ↓callUF, C1by_mu, C1mby_mu, runM_eq, mkM_some, hNil_dec, hCons_dec, app3_some, hP_dec, hP1_some, hP2_some, hO1_some, hO2_arr, hOwn_dec, hB1_some, hB2_arr, hBox_dec, hAgg_dec, pickF, nodupB, somes, fresh, gids, gid, putO, ren, renL, renO, List.range'_succ, tk50, tk52, tz52, dz52, kXGet, kXJoin, kLSize, kXSet, hXf, decL_aRs, length_aRs, pureB_aRs, renL_aRs, renL_bytes, List.length_map, zip_self, xH, xH', c1, hw, hg, hk, cz]
        refine ⟨by omega, hrf, by omega, ?_⟩
        (repeat' first | exact rfl | apply And.intro | exact subX_eq rfl (pureB_bytes _) | exact subX_eq rfl (pureB_aPs _) | exact subX_eq rfl rfl | decide | omega | apply subX_one)
        all_goals try simp (maxSteps := 4000000) only [subL]
        all_goals exact subX_eq rfl (pureB_aRs _)
    | some w =>
      obtain ⟨wk, wl⟩ := w
      have hwf : fitR wl := stock_fit hst hk
      obtain ⟨j, hj⟩ : ∃ j, j = joinR (wk, wl) (rk, rl) := ⟨_, rfl⟩
      have hnm : namedR z b (rk, rl) = (b + 32, j, true) := by
        unfold namedR
        rw [if_neg (by rw [hlo]; simp), if_pos hu, hk, hj]
      rw [hnm, if_pos rfl]
      rw [hnm] at hf
      obtain ⟨jk, jl⟩ := j
      have hf : fitR jl := hf
      by_cases hz : lsz jl > 4096
      · have cz : decide (lsz jl > 4096) = true := decide_eq_true hz
        rw [if_pos hz]
        simp (maxSteps := 4000000) only [↓wpA_H, ↓wpH_ret, ↓wpH_seq, ↓wpH_cond, ↓wpH_block, ↓wpH_region, bselH_true, ↓iselH_true, bselH_false, runH_nil, runH_cons, gw, gselH_plain, gselH_if, kselH_1, cselH_bool, gkind, ↓chk, justK, noW, ↓oneK, ↓pureK, ↓heapK, envOf, ↓thenA_normal, ↓thenA_ret, ↓blockA_normal, ↓stepEv, opnd, Pg.look, binK, intOp, dstOf, Bool.and_true, Bool.not_false, Bool.false_eq_true, false_implies, implies_true, imp_self, true_and, and_true, forall_const, pickC, pickV, unc, gof, mux, mergeK, condsL, valV, heapV, footV, binV, intV, alives, aliveO, nxtQ, hdS, pairsA, frzA, closeQ_nil, closeQ_succ, diagQ_zero, diagQ_succ, Nat.reduceAdd, mergeable, look_stripE, ofV, ofLeaf, sameK, retA, resK, tupA, subA, subQ, ptrsE, pairsO, frzO, subF, subG, pickOf, assocN, pairsE, pairsC, pairsL, pairs0, frzE, frzC, frzL, frz0, frzH, Pg.freeze, List.foldl_nil, subOs, subO, subEv, subV_succ, subM, ldCells, objAt, ↓callT, callC, callV, callH, normArgs, normA, normC, normL, resL, res8_eq, res_succ, resM, shiftR, shift1, AV.cells, TK.cells, AV.definite, AV.leaf, AV.leafy, AV.pureLeaf, AV.pureB, putCells, lay, Op.operands, List.getElem?_toArray, List.getElem?_cons_succ, List.getElem?_cons_zero, Option.bind_some, Option.getD_some, reduceCtorEq, Nat.reduceEqDiff, Nat.reduceAdd, Nat.reduceLT, Nat.reduceSub, List.nil_append, List.append_nil, List.cons_append, List.length_cons, List.length_nil, List.map_cons, List.map_nil, List.set_cons_zero, List.set_cons_succ, Nat.zero_add, ite_true, ite_false, Option.some.injEq, Option.isSome_some, Prod.mk.injEq, Bool.if_false_right, decide_eq_true_eq, decide_eq_false_iff_not, Int.not_le, List.all_cons, List.all_nil, Bool.and_self, and_self, exists_eq_left', List.length_map, cInt_dec, List.toList_toArray, length_ofBytes, cByte_dec, decL_byte, cSl_dec, cAgg_dec, lOne_dec, lCons_dec, dec2_some, pureB_bytes, List.contains_cons, List.contains_nil, Nat.reduceBEq, Bool.or_self, Bool.or_false, beq_self_eq_true, List.range'_zero, decL_str, C1by_ns, C1by_pre, C1by_r, C1by_H, optP_some, optV_some, optH_some, List.getD_cons_zero, List.getD_cons_succ, cutL, List.drop_zero, List.drop_succ_cons, List.take_succ_cons, List.take_zero, Nat.sub_zero, Nat.sub_self, Nat.le_refl, Nat.lt_irrefl, List.drop_nil, List.take_nil, Nat.zero_lt_succ, C1by_it, regH_none, isNext, nextF, nextG, selC_false, ↓msel, muC, ↓callP, ↓callU, ↓callUV, ↓callUH, ↓callUF, C1by_mu, C1mby_mu, runM_eq, mkM_some, hNil_dec, hCons_dec, app3_some, hP_dec, hP1_some, hP2_some, hO1_some, hO2_arr, hOwn_dec, hB1_some, hB2_arr, hBox_dec, hAgg_dec, pickF, nodupB, somes, fresh, gids, gid, putO, ren, renL, renO, tk50, tk52, tz52, dz52, kXGet, kXJoin, kLSize, kXSet, hXf, decL_aRs, length_aRs, pureB_aRs, renL_aRs, renL_bytes, List.length_map, zip_self, xH, xH', c1, hw, hg, hk, cz, ← hj]
        refine ⟨by omega, ⟨hwf, hrf⟩, hf, ?_⟩
        (repeat' first | exact rfl | apply And.intro | exact subX_eq rfl (pureB_bytes _) | exact subX_eq rfl (pureB_aPs _) | exact subX_eq rfl rfl | decide | omega | apply subX_one)
        all_goals try simp (maxSteps := 4000000) only [subL]
        all_goals exact subX_eq rfl (pureB_aRs _)
      · have cz : decide (lsz jl > 4096) = false := decide_eq_false hz
        rw [if_neg hz]
        simp (maxSteps := 4000000) only [↓wpA_H, ↓wpH_skip, ↓wpH_ret, ↓wpH_seq, ↓wpH_cond, ↓wpH_block, ↓wpH_region, bselH_true, ↓iselH_true, ↓iselH_false, bselH_false, runH_nil, runH_cons, gw, gselH_plain, gselH_if, kselH_1, cselH_bool, gkind, ↓chk, justK, noW, ↓oneK, ↓pureK, ↓heapK, envOf, ↓thenA_normal, ↓blockA_normal, ↓stepEv, opnd, Pg.look, binK, intOp, dstOf, Bool.and_true, Bool.not_false, Bool.false_eq_true, false_implies, implies_true, imp_self, true_and, and_true, forall_const, pickC, pickV, unc, gof, mux, mergeK, condsL, valV, heapV, footV, binV, intV, alives, aliveO, nxtQ, hdS, pairsA, frzA, closeQ_nil, closeQ_succ, diagQ_zero, diagQ_succ, Nat.reduceAdd, mergeable, look_stripE, ofV, ofLeaf, sameK, retA, resK, tupA, subA, subQ, ptrsE, pairsO, frzO, subF, subG, pickOf, assocN, pairsE, pairsC, pairsL, pairs0, frzE, frzC, frzL, frz0, frzH, Pg.freeze, List.foldl_nil, subOs, subO, subEv, subV_succ, subM, ldCells, objAt, ↓callT, callC, callV, callH, normArgs, normA, normC, normL, resL, res8_eq, res_succ, resM, shiftR, shift1, AV.cells, TK.cells, AV.definite, AV.leaf, AV.leafy, AV.pureLeaf, AV.pureB, putCells, lay, Op.operands, List.getElem?_toArray, List.getElem?_cons_succ, List.getElem?_cons_zero, Option.bind_some, Option.getD_some, reduceCtorEq, Nat.reduceEqDiff, Nat.reduceAdd, Nat.reduceLT, Nat.reduceSub, List.nil_append, List.append_nil, List.cons_append, List.length_cons, List.length_nil, List.map_cons, List.map_nil, List.set_cons_zero, List.set_cons_succ, Nat.zero_add, ite_true, ite_false, Option.some.injEq, Option.isSome_some, Prod.mk.injEq, Bool.if_false_right, decide_eq_true_eq, decide_eq_false_iff_not, Int.not_le, List.all_cons, List.all_nil, Bool.and_self, and_self, exists_eq_left', List.length_map, cInt_dec, List.toList_toArray, length_ofBytes, cByte_dec, decL_byte, cSl_dec, cAgg_dec, lOne_dec, lCons_dec, dec2_some, pureB_bytes, List.contains_cons, List.contains_nil, Nat.reduceBEq, Bool.or_self, Bool.or_false, beq_self_eq_true, List.range'_zero, decL_str, C1by_ns, C1by_pre, C1by_r, C1by_H, optP_some, optV_some, optH_some, List.getD_cons_zero, List.getD_cons_succ, cutL, List.drop_zero, List.drop_succ_cons, List.take_succ_cons, List.take_zero, Nat.sub_zero, Nat.sub_self, Nat.le_refl, Nat.lt_irrefl, List.drop_nil, List.take_nil, Nat.zero_lt_succ, C1by_it, regH_none, isNext, nextF, nextG, selC_false, ↓msel, muC, ↓callP, ↓callU, ↓callUV, ↓callUH, ↓callUF, C1by_mu, C1mby_mu, runM_eq, mkM_some, hNil_dec, hCons_dec, app3_some, hP_dec, hP1_some, hP2_some, hO1_some, hO2_arr, hOwn_dec, hB1_some, hB2_arr, hBox_dec, hAgg_dec, pickF, nodupB, somes, fresh, gids, gid, putO, ren, renL, renO, List.range'_succ, tk50, tk52, tz52, dz52, kXGet, kXJoin, kLSize, kXSet, hXf, decL_aRs, length_aRs, pureB_aRs, renL_aRs, renL_bytes, List.length_map, zip_self, xH, xH', c1, hw, hg, hk, cz, ← hj]
        refine ⟨by omega, ⟨hwf, hrf⟩, hf, by omega, ?_⟩
        (repeat' first | exact rfl | apply And.intro | exact subX_eq rfl (pureB_bytes _) | exact subX_eq rfl (pureB_aPs _) | exact subX_eq rfl rfl | decide | omega | apply subX_one)
        all_goals try simp (maxSteps := 4000000) only [subL]
        all_goals exact subX_eq rfl (pureB_aRs _)
  | false =>
    rw [hu] at c1
    cases hlo : isLow b with
    | true =>
      rw [hlo] at c2
      have c3 : (decide ((b.toNat : Int) < 97) || decide ((b.toNat : Int) > 122)) = false := by
        simp only [Bool.and_eq_true, decide_eq_true_eq] at c2
        simp only [Bool.or_eq_false_iff, decide_eq_false_iff_not]
        omega
      have hnm : namedR z b (rk, rl) = (b, (rk, rl), true) := if_pos hlo
      rw [hnm, if_pos rfl]
      by_cases hz : lsz rl > 4096
      · have cz : decide (lsz rl > 4096) = true := decide_eq_true hz
        rw [if_pos hz]
        simp (maxSteps := 4000000) only [↓wpA_H, ↓wpH_skip, ↓wpH_ret, ↓wpH_seq, ↓wpH_cond, ↓wpH_block, ↓wpH_region, ↓iselH_true, ↓iselH_false, bselH_false, runH_nil, runH_cons, gw, gselH_plain, gselH_if, kselH_1, cselH_bool, gkind, ↓chk, justK, noW, ↓oneK, ↓pureK, ↓heapK, envOf, ↓thenA_normal, ↓thenA_ret, ↓blockA_normal, ↓stepEv, opnd, Pg.look, binK, intOp, dstOf, Bool.and_true, Bool.false_eq_true, false_implies, implies_true, imp_self, true_and, and_true, pickC, pickV, unc, gof, mux, mergeK, condsL, valV, heapV, footV, binV, intV, alives, aliveO, nxtQ, hdS, pairsA, frzA, closeQ_nil, closeQ_succ, diagQ_zero, diagQ_succ, Nat.reduceAdd, mergeable, look_stripE, ofV, ofLeaf, sameK, retA, resK, tupA, subA, subQ, ptrsE, pairsO, frzO, subF, subG, pickOf, assocN, pairsE, pairsC, pairsL, pairs0, frzE, frzC, frzL, frz0, frzH, Pg.freeze, List.foldl_nil, subOs, subO, subEv, subV_succ, subM, ldCells, objAt, ↓callT, callC, callV, callH, normArgs, normA, normC, resL, res8_eq, res_succ, resM, shiftR, shift1, AV.cells, TK.cells, AV.definite, AV.pureLeaf, AV.pureB, Op.operands, List.getElem?_toArray, List.getElem?_cons_succ, List.getElem?_cons_zero, Option.bind_some, Option.getD_some, reduceCtorEq, Nat.reduceEqDiff, Nat.reduceAdd, Nat.reduceLT, List.nil_append, List.append_nil, List.cons_append, List.length_cons, List.length_nil, List.map_cons, List.map_nil, Nat.zero_add, ite_true, ite_false, Option.some.injEq, Prod.mk.injEq, Bool.if_false_right, Bool.if_true_left, decide_eq_true_eq, decide_eq_false_iff_not, Int.not_le, Int.not_lt, List.all_cons, List.all_nil, Bool.and_self, and_self, Bool.not_eq_true', exists_eq_left', List.length_map, List.toList_toArray, cSl_dec, lOne_dec, lCons_dec, pureB_bytes, List.contains_cons, List.contains_nil, Nat.reduceBEq, Bool.or_self, List.range'_zero, decL_str, C1by_ns, C1by_pre, C1by_r, C1by_H, optP_some, optV_some, optH_some, List.getD_cons_zero, Nat.lt_irrefl, Nat.zero_lt_succ, C1by_it, regH_none, isNext, nextF, nextG, selC_false, ↓msel, muC, ↓callP, C1by_mu, C1mby_mu, tk50, tk52, dz52, kXGet, kXJoin, kLSize, kXSet, hXf, pureB_aRs, List.length_map, xH, xH', c1, c3, cz]
        refine ⟨hrf, ?_⟩
        (repeat' first | exact rfl | apply And.intro | exact subX_eq rfl (pureB_bytes _) | exact subX_eq rfl (pureB_aPs _) | exact subX_eq rfl rfl | decide | omega | apply subX_one)
        all_goals try simp (maxSteps := 4000000) only [subL]
        all_goals exact subX_eq rfl (pureB_aRs _)
      · have cz : decide (lsz rl > 4096) = false := decide_eq_false hz
        rw [if_neg hz]
        simp (maxSteps := 4000000) only [↓wpA_H, ↓wpH_skip, ↓wpH_ret, ↓wpH_seq, ↓wpH_cond, ↓wpH_block, ↓wpH_region, ↓iselH_false, bselH_false, runH_nil, runH_cons, gw, gselH_plain, gselH_if, kselH_1, cselH_bool, gkind, ↓chk, justK, noW, ↓oneK, ↓pureK, ↓heapK, envOf, ↓thenA_normal, ↓blockA_normal, ↓stepEv, opnd, Pg.look, binK, intOp, dstOf, Bool.and_true, Bool.not_false, Bool.false_eq_true, false_implies, implies_true, imp_self, true_and, and_true, pickC, pickV, unc, gof, mux, mergeK, condsL, valV, heapV, footV, binV, intV, alives, aliveO, nxtQ, hdS, pairsA, frzA, closeQ_nil, closeQ_succ, diagQ_zero, diagQ_succ, Nat.reduceAdd, mergeable, look_stripE, ofV, ofLeaf, sameK, retA, resK, tupA, subA, subQ, ptrsE, pairsO, frzO, subF, subG, pickOf, assocN, pairsE, pairsC, pairsL, pairs0, frzE, frzC, frzL, frz0, frzH, Pg.freeze, List.foldl_nil, subOs, subO, subEv, subV_succ, subM, ldCells, objAt, ↓callT, callC, callV, callH, normArgs, normA, normC, normL, resL, res8_eq, res_succ, resM, shiftR, shift1, AV.cells, TK.cells, AV.definite, AV.pureLeaf, AV.pureB, Op.operands, List.getElem?_toArray, List.getElem?_cons_succ, List.getElem?_cons_zero, Option.bind_some, Option.getD_some, reduceCtorEq, Nat.reduceEqDiff, Nat.reduceAdd, Nat.reduceLT, Nat.reduceSub, List.nil_append, List.append_nil, List.cons_append, List.length_cons, List.length_nil, List.map_cons, List.map_nil, List.set_cons_zero, List.set_cons_succ, Nat.zero_add, ite_true, ite_false, Option.some.injEq, Prod.mk.injEq, Bool.if_false_right, Bool.if_true_left, decide_eq_true_eq, decide_eq_false_iff_not, Int.not_le, Int.not_lt, List.all_cons, List.all_nil, Bool.and_self, and_self, Bool.not_eq_true', exists_eq_left', List.length_map, cInt_dec, List.toList_toArray, length_ofBytes, cByte_dec, decL_byte, cSl_dec, cAgg_dec, lOne_dec, lCons_dec, dec2_some, pureB_bytes, List.contains_cons, List.contains_nil, Nat.reduceBEq, Bool.or_self, List.range'_zero, decL_str, C1by_ns, C1by_pre, C1by_r, C1by_H, optP_some, optV_some, optH_some, List.getD_cons_zero, List.getD_cons_succ, cutL, List.drop_zero, List.take_succ_cons, Nat.sub_zero, Nat.le_refl, Nat.lt_irrefl, List.take_nil, Nat.zero_lt_succ, C1by_it, regH_none, isNext, nextF, nextG, selC_false, ↓msel, muC, ↓callP, ↓callU, ↓callUV, ↓callUH, ↓callUF, C1by_mu, C1mby_mu, runM_eq, mkM_some, hNil_dec, hCons_dec, app3_some, hP_dec, hP1_some, hP2_some, hO1_some, hO2_arr, hOwn_dec, hB1_some, hB2_arr, hBox_dec, hAgg_dec, pickF, nodupB, somes, fresh, gids, gid, putO, ren, renL, renO, List.range'_succ, tk50, tk52, dz52, kXGet, kXJoin, kLSize, kXSet, hXf, decL_aRs, length_aRs, pureB_aRs, renL_aRs, renL_bytes, List.length_map, zip_self, xH, xH', c1, c3, cz]
        refine ⟨hrf, by omega, ?_⟩
        (repeat' first | exact rfl | apply And.intro | exact subX_eq rfl (pureB_bytes _) | exact subX_eq rfl (pureB_aPs _) | exact subX_eq rfl rfl | decide | omega | apply subX_one)
        all_goals try simp (maxSteps := 4000000) only [subL]
        all_goals exact subX_eq rfl (pureB_aRs _)
    | false =>
      rw [hlo] at c2
      have c3 : (decide ((b.toNat : Int) < 97) || decide ((b.toNat : Int) > 122)) = true := by
        simp only [Bool.and_eq_false_iff, decide_eq_false_iff_not] at c2
        simp only [Bool.or_eq_true, decide_eq_true_eq]
        omega
      have hnm : namedR z b (rk, rl) = (0, (0, []), false) := by
        unfold namedR
        rw [if_neg (by rw [hlo]; simp), if_neg (by rw [hu]; simp)]
      rw [hnm, if_neg (by simp)]
      simp (maxSteps := 4000000) only [↓wpA_H, ↓wpH_ret, ↓wpH_seq, ↓wpH_cond, ↓wpH_block, ↓wpH_region, ↓iselH_true, ↓iselH_false, bselH_false, runH_nil, runH_cons, gw, gselH_plain, gselH_if, kselH_1, cselH_bool, gkind, ↓chk, justK, noW, ↓oneK, ↓pureK, ↓heapK, envOf, ↓thenA_normal, ↓thenA_ret, ↓blockA_ret, ↓stepEv, opnd, Pg.look, binK, intOp, dstOf, Bool.and_true, Bool.false_eq_true, implies_true, imp_self, true_and, and_true, pickC, pickV, unc, gof, mux, mergeK, condsL, valV, heapV, footV, binV, intV, alives, aliveO, nxtQ, hdS, pairsA, frzA, closeQ_nil, closeQ_succ, diagQ_zero, diagQ_succ, Nat.reduceAdd, mergeable, look_stripE, ofV, ofLeaf, sameK, retA, resK, tupA, subA, subQ, ptrsE, pairsO, frzO, subF, subG, pickOf, assocN, pairsE, pairsC, pairsL, pairs0, frzE, frzC, frzL, frz0, frzH, Pg.freeze, List.foldl_nil, subOs, subO, subEv, subV_succ, subM, AV.cells, AV.definite, AV.pureLeaf, AV.pureB, Op.operands, List.getElem?_toArray, List.getElem?_cons_succ, List.getElem?_cons_zero, Option.bind_some, reduceCtorEq, Nat.reduceEqDiff, Nat.reduceAdd, Nat.reduceLT, List.nil_append, List.append_nil, List.cons_append, List.length_cons, List.length_nil, Nat.zero_add, ite_true, ite_false, Bool.if_false_right, Bool.if_true_left, decide_eq_true_eq, decide_eq_false_iff_not, Int.not_le, Int.not_lt, List.all_cons, List.all_nil, Bool.and_self, and_self, Bool.not_eq_true', List.length_map, List.toList_toArray, pureB_bytes, List.contains_cons, List.contains_nil, Nat.reduceBEq, Bool.or_self, Nat.lt_irrefl, Nat.zero_lt_succ, regH_none, isNext, nextF, nextG, selC_false, kXGet, kXJoin, kLSize, kXSet, hXf, pureB_aRs, List.length_map, xH, xH', c1, c3]
      (repeat' first | exact rfl | apply And.intro | exact subX_eq rfl (pureB_bytes _) | exact subX_eq rfl (pureB_aPs _) | exact subX_eq rfl rfl | decide | omega | apply subX_one)
      all_goals try simp (maxSteps := 4000000) only [subL]
      all_goals exact subX_eq rfl (pureB_aRs _)

theorem zSet_len {ν : Type} (b : UInt8) (p : ν) (z : List (UInt8 × ν)) : (zSet b p z).length ≤ z.length + 1 := by
  induction z with
  | nil => simp [zSet]
  | cons x r ih => simp only [zSet]; split <;> (try split) <;> simp only [List.length_cons] <;> omega
theorem xPut_len (z : Rgs) (b : UInt8) (r : RgV) : (xPut z b r).2.length ≤ z.length + 1 := by
  unfold xPut
  split
  · split
    · show z.length ≤ _; omega
    · exact zSet_len _ _ _
  · show z.length ≤ _; omega
def kXPut : C1 := C1.mby (hCons hXf (hCons (hP .id cByte) (hCons (hP (.ag [none, some 1]) cRgV) hNil))) (fun d => (d.1.1.length = d.1.2.1.length ∧ d.1.1.length ≤ 1000) ∧ stockR (d.1.1.zip d.1.2.1) ∧ okArg d.2.2.1) (fun d => .int .i64 (xPut (d.1.1.zip d.1.2.1) d.2.1 d.2.2.1).1)
  (fun d => xH' (zNr (xPut (d.1.1.zip d.1.2.1) d.2.1 d.2.2.1).2) (zPr (xPut (d.1.1.zip d.1.2.1) d.2.1 d.2.2.1).2))
theorem ok_XPut : C1OK Try.prog 40 kXPut := C1OK.mby (by kernel_rfl) (fun d h => by
    have := calls_XPut (d.1.1.zip d.1.2.1) d.2.1 d.2.2.1 h.2.1 h.2.2 (by rw [List.length_zip]; have := h.1.2; omega)
    rw [(zip_z _ _ h.1.1).1, (zip_z _ _ h.1.1).2] at this
    exact this) (fun _ _ => by show 3 ≤ 5; omega)

/-! ### Yanks and cuts -/
def xSet (g : RgV → Rgs → Rgs) (z : Rgs) (b : UInt8) (r : RgV) : Int × Rgs :=
  if b = 95 then (0, z)
  else if b ≠ 0 ∧ b ≠ 34 then (if (xPut z b r).1 = 0 then (0, zSet 34 ((look1 (gname b) (xPut z b r).2).getD (0, [])) (xPut z b r).2) else xPut z b r)
  else if lsz r.2 > 4096 then (21, z) else (0, zSet 34 r (g r z))
theorem cXYank : CtrOK Try.prog [(43, kXGet), (40, kXPut), (32, kLSize), (56, kXSet)] :=
  CtrOK.cons ok_XGet (CtrOK.cons ok_XPut (CtrOK.cons ok_LSizeR (CtrOK.cons ok_XSet (CtrOK.nil _))))

set_option maxRecDepth 20000 in
set_option maxHeartbeats 8000000 in
theorem calls_XYank (z : Rgs) (b : UInt8) (r : RgV) (hst : stockR z) (hr : okArg r) (hn : z.length ≤ 900) :
    CallsR Try.prog 38 [.ptr 0 2 1 0 0, .int .u8 b.toNat, aRg r] (xH (zNr z) (zPr z))
      (.int .i64 (xSet (zSet 48) z b r).1) (xH' (zNr (xSet (zSet 48) z b r).2) (zPr (xSet (zSet 48) z b r).2)) := by
  refine callsR_of (mrg := true) (dyn := [7]) (cXYank) mixed Try.func38 rfl (by simp [Try.ntmps38]) (by kernel_rfl) ?_
  rw [show Try.f38.results.toList = [.tmp 6] from by kernel_rfl]
  obtain ⟨rk, rl⟩ := r
  have hrf : fitR rl := okArg_fit hr
  have c95 : ((b.toNat : Int) == 95) = (b == 95) := eq_lit b 95 (by omega)
  have c0 : ((b.toNat : Int) == 0) = (b == 0) := eq_lit b 0 (by omega)
  have c34 : ((b.toNat : Int) == 34) = (b == 34) := eq_lit b 34 (by omega)
  unfold xSet
  by_cases h95 : b = 95
  · have e95 : (b == 95) = true := beq_iff_eq.2 h95
    rw [if_pos h95]
    simp (maxSteps := 4000000) only [↓wpA_H, ↓wpH_ret, ↓wpH_seq, ↓wpH_cond, ↓wpH_block, ↓wpH_region, ↓iselH_true, bselH_false, runH_nil, runH_cons, gw, gselH_plain, cselH_bool, ↓chk, justK, noW, ↓oneK, ↓pureK, ↓heapK, envOf, ↓thenA_normal, ↓thenA_ret, ↓blockA_ret, ↓stepEv, opnd, Pg.look, binK, intOp, Bool.and_true, Bool.false_eq_true, implies_true, true_and, and_true, valV, heapV, footV, binV, intV, alives, aliveO, nxtQ, hdS, pairsA, frzA, closeQ_nil, closeQ_succ, diagQ_zero, diagQ_succ, Nat.reduceAdd, ofV, ofLeaf, retA, resK, tupA, subA, subQ, ptrsE, pairsO, frzO, subF, subG, pickOf, assocN, pairsE, pairsC, pairsL, pairs0, frzE, frzC, frzL, frz0, frzH, Pg.freeze, List.foldl_nil, subOs, subO, subEv, subV_succ, subM, AV.cells, AV.definite, AV.pureLeaf, AV.pureB, List.getElem?_cons_succ, List.getElem?_cons_zero, reduceCtorEq, Nat.reduceEqDiff, Nat.reduceAdd, Nat.reduceLT, List.nil_append, List.append_nil, List.cons_append, List.length_cons, List.length_nil, Nat.zero_add, ite_true, ite_false, List.all_cons, List.all_nil, Bool.and_self, and_self, List.length_map, pureB_bytes, List.contains_cons, List.contains_nil, Nat.reduceBEq, Bool.or_self, Nat.lt_irrefl, Nat.zero_lt_succ, regH_none, isNext, nextF, nextG, selC_false, kXGet, kLSize, kXSet, hXf, pureB_aRs, List.length_map, xH, xH', kXPut, c95, e95]
    (repeat' first | exact rfl | apply And.intro | exact subX_eq rfl (pureB_bytes _) | exact subX_eq rfl (pureB_aPs _) | exact subX_eq rfl rfl | decide | omega | apply subX_one)
    all_goals try simp (maxSteps := 4000000) only [subL]
    all_goals exact subX_eq rfl (pureB_aRs _)
  have e95 : (b == 95) = false := beq_eq_false_iff_ne.2 h95
  rw [if_neg h95]
  by_cases hb : b ≠ 0 ∧ b ≠ 34
  · have e0 : (b == 0) = false := beq_eq_false_iff_ne.2 hb.1
    have e34 : (b == 34) = false := beq_eq_false_iff_ne.2 hb.2
    rw [if_pos hb]
    have hps := xPut_len z b (rk, rl)
    obtain ⟨p, hp⟩ : ∃ p, p = xPut z b (rk, rl) := ⟨_, rfl⟩
    rw [← hp] at hps ⊢
    obtain ⟨pe, pl⟩ := p
    have hps : pl.length ≤ z.length + 1 := hps
    by_cases hz : pe = 0
    · have ez : (pe != 0) = false := by simp [hz]
      rw [if_pos hz]
      obtain ⟨v, hv⟩ : ∃ v, v = (look1 (gname b) pl).getD (0, []) := ⟨_, rfl⟩
      rw [← hv]
      obtain ⟨vk, vl⟩ := v
      subst hz
      simp (maxSteps := 4000000) only [↓wpA_H, ↓wpH_skip, ↓wpH_ret, ↓wpH_seq, ↓wpH_cond, ↓wpH_block, ↓wpH_region, ↓iselH_false, bselH_false, runH_nil, runH_cons, gw, gselH_plain, gselH_if, kselH_1, cselH_bool, gkind, ↓chk, justK, noW, ↓oneK, ↓pureK, ↓heapK, envOf, ↓thenA_normal, ↓blockA_normal, ↓stepEv, opnd, Pg.look, binK, intOp, dstOf, Bool.and_true, Bool.not_false, Bool.false_eq_true, implies_true, true_and, and_true, pickC, pickV, unc, gof, mux, mergeK, condsL, valV, heapV, footV, binV, intV, alives, aliveO, nxtQ, hdS, pairsA, frzA, closeQ_nil, closeQ_succ, diagQ_zero, diagQ_succ, Nat.reduceAdd, mergeable, look_stripE, ofV, ofLeaf, sameK, retA, resK, tupA, subA, subQ, ptrsE, pairsO, frzO, subF, subG, pickOf, assocN, pairsE, pairsC, pairsL, pairs0, frzE, frzC, frzL, frz0, frzH, Pg.freeze, List.foldl_nil, subOs, subO, subEv, subV_succ, subM, ldCells, objAt, ↓callT, normA, normC, normL, resL, res8_eq, res_succ, resM, AV.cells, TK.cells, AV.definite, AV.leaf, AV.leafy, AV.pureLeaf, AV.pureB, putCells, lay, Op.operands, List.getElem?_toArray, List.getElem?_cons_succ, List.getElem?_cons_zero, Option.bind_some, Option.getD_some, reduceCtorEq, Nat.reduceEqDiff, Nat.reduceAdd, Nat.reduceLT, Nat.reduceSub, List.nil_append, List.append_nil, List.cons_append, List.length_cons, List.length_nil, List.map_cons, List.map_nil, List.set_cons_zero, List.set_cons_succ, Nat.zero_add, Int.reduceToNat, ite_true, ite_false, Option.some.injEq, List.all_cons, List.all_nil, Bool.and_self, and_self, exists_eq_left', List.length_map, cInt_dec, List.toList_toArray, length_ofBytes, cByte_dec, cByte_lit, Int.reduceLE, Int.reduceLT, UInt8.reduceOfNat, decL_byte, cSl_dec, cAgg_dec, lOne_dec, lCons_dec, dec2_some, pureB_bytes, List.contains_cons, List.contains_nil, Nat.reduceBEq, Bool.or_self, List.range'_zero, bne_self_eq_false, decL_str, List.getD_cons_zero, List.getD_cons_succ, cutL, List.drop_zero, List.drop_succ_cons, List.take_succ_cons, List.take_zero, Nat.sub_zero, Nat.sub_self, Nat.le_refl, Nat.lt_irrefl, List.drop_nil, List.take_nil, Nat.zero_lt_succ, regH_none, isNext, nextF, nextG, selC_false, ↓msel, muC, ↓callU, ↓callUV, ↓callUH, ↓callUF, C1by_mu, C1mby_mu, runM_eq, mkM_some, hNil_dec, hCons_dec, app3_some, hP_dec, hP1_some, hP2_some, hO1_some, hO2_arr, hOwn_dec, hB1_some, hB2_arr, hBox_dec, hAgg_dec, pickF, nodupB, somes, fresh, gids, gid, putO, ren, renL, renO, List.range'_succ, tk52, tz52, dz52, kXGet, kLSize, kXSet, hXf, decL_aRs, length_aRs, pureB_aRs, renL_aRs, renL_bytes, List.length_map, zip_self, xH, xH', kXPut, c95, e95, c0, e0, c34, e34, ← hp, ← hv]
      have hps : pl.length ≤ z.length + 1 := hps
      refine ⟨⟨by omega, hst, hr⟩, by omega, by omega, ?_⟩
      (repeat' first | exact rfl | apply And.intro | exact subX_eq rfl (pureB_bytes _) | exact subX_eq rfl (pureB_aPs _) | exact subX_eq rfl rfl | decide | omega | apply subX_one)
      all_goals try simp (maxSteps := 4000000) only [subL]
      all_goals exact subX_eq rfl (pureB_aRs _)
    · have ez : (pe != 0) = true := by simp [hz]
      rw [if_neg hz]
      simp (maxSteps := 4000000) only [↓wpA_H, ↓wpH_skip, ↓wpH_ret, ↓wpH_seq, ↓wpH_cond, ↓wpH_block, ↓wpH_region, ↓iselH_true, ↓iselH_false, bselH_false, runH_nil, runH_cons, gw, gselH_plain, gselH_if, kselH_1, cselH_bool, gkind, ↓chk, justK, noW, ↓oneK, ↓pureK, ↓heapK, envOf, ↓thenA_normal, ↓thenA_ret, ↓blockA_normal, ↓stepEv, opnd, Pg.look, binK, intOp, dstOf, Bool.and_true, Bool.not_false, Bool.false_eq_true, implies_true, true_and, and_true, pickC, pickV, unc, gof, mux, mergeK, condsL, valV, heapV, footV, binV, intV, alives, aliveO, nxtQ, hdS, pairsA, frzA, closeQ_nil, closeQ_succ, diagQ_zero, diagQ_succ, Nat.reduceAdd, mergeable, look_stripE, ofV, ofLeaf, sameK, retA, resK, tupA, subA, subQ, ptrsE, pairsO, frzO, subF, subG, pickOf, assocN, pairsE, pairsC, pairsL, pairs0, frzE, frzC, frzL, frz0, frzH, Pg.freeze, List.foldl_nil, subOs, subO, subEv, subV_succ, subM, ldCells, objAt, ↓callT, normA, normC, normL, resL, res8_eq, res_succ, resM, AV.cells, TK.cells, AV.definite, AV.pureLeaf, AV.pureB, Op.operands, List.getElem?_toArray, List.getElem?_cons_succ, List.getElem?_cons_zero, Option.bind_some, Option.getD_some, reduceCtorEq, Nat.reduceEqDiff, Nat.reduceAdd, Nat.reduceLT, Nat.reduceSub, List.nil_append, List.append_nil, List.cons_append, List.length_cons, List.length_nil, List.map_cons, List.map_nil, List.set_cons_zero, List.set_cons_succ, Nat.zero_add, ite_true, ite_false, Option.some.injEq, List.all_cons, List.all_nil, Bool.and_self, and_self, exists_eq_left', List.length_map, cInt_dec, List.toList_toArray, length_ofBytes, cByte_dec, decL_byte, cSl_dec, cAgg_dec, lOne_dec, lCons_dec, dec2_some, pureB_bytes, List.contains_cons, List.contains_nil, Nat.reduceBEq, Bool.or_self, List.range'_zero, decL_str, List.getD_cons_zero, List.getD_cons_succ, cutL, List.drop_zero, List.take_succ_cons, Nat.sub_zero, Nat.le_refl, Nat.lt_irrefl, List.take_nil, Nat.zero_lt_succ, regH_none, isNext, nextF, nextG, selC_false, ↓msel, muC, ↓callU, ↓callUV, ↓callUH, ↓callUF, C1by_mu, C1mby_mu, runM_eq, mkM_some, hNil_dec, hCons_dec, app3_some, hP_dec, hP1_some, hP2_some, hO1_some, hO2_arr, hOwn_dec, hB1_some, hB2_arr, hBox_dec, hAgg_dec, pickF, nodupB, somes, fresh, gids, gid, putO, ren, renL, renO, List.range'_succ, tk52, dz52, kXGet, kLSize, kXSet, hXf, decL_aRs, length_aRs, pureB_aRs, renL_aRs, renL_bytes, List.length_map, zip_self, xH, xH', kXPut, c95, e95, c0, e0, c34, e34, ← hp, ez]
      refine ⟨⟨by omega, hst, hr⟩, ?_⟩
      (repeat' first | exact rfl | apply And.intro | exact subX_eq rfl (pureB_bytes _) | exact subX_eq rfl (pureB_aPs _) | exact subX_eq rfl rfl | decide | omega | apply subX_one)
      all_goals try simp (maxSteps := 4000000) only [subL]
      all_goals exact subX_eq rfl (pureB_aRs _)
  · have e34 : (b == 0) = false → (b == 34) = true := fun h => by
      rw [beq_eq_false_iff_ne] at h
      rw [beq_iff_eq]
      exact Classical.byContradiction fun h2 => hb ⟨h, h2⟩
    have ec : ((b.toNat : Int) == 0 || (b.toNat : Int) == 34) = true := by
      rw [c0, c34]
      cases hx : (b == 0) with
      | true => rfl
      | false => rw [e34 hx]; rfl
    rw [if_neg hb]
    by_cases hz : lsz rl > 4096
    · have cz : decide (lsz rl > 4096) = true := decide_eq_true hz
      rw [if_pos hz]
      simp (maxSteps := 4000000) only [↓wpA_H, ↓wpH_ret, ↓wpH_seq, ↓wpH_cond, ↓wpH_block, ↓wpH_region, ↓iselH_true, ↓iselH_false, bselH_false, runH_nil, runH_cons, gw, gselH_plain, gselH_if, kselH_1, cselH_bool, gkind, ↓chk, justK, noW, ↓oneK, ↓pureK, ↓heapK, envOf, ↓thenA_normal, ↓thenA_ret, ↓blockA_ret, ↓stepEv, opnd, Pg.look, binK, intOp, dstOf, Bool.and_true, Bool.false_eq_true, false_implies, implies_true, imp_self, true_and, and_true, pickC, pickV, unc, gof, mux, mergeK, condsL, valV, heapV, footV, binV, intV, alives, aliveO, nxtQ, hdS, pairsA, frzA, closeQ_nil, closeQ_succ, diagQ_zero, diagQ_succ, Nat.reduceAdd, mergeable, look_stripE, ofV, ofLeaf, sameK, retA, resK, tupA, subA, subQ, ptrsE, pairsO, frzO, subF, subG, pickOf, assocN, pairsE, pairsC, pairsL, pairs0, frzE, frzC, frzL, frz0, frzH, Pg.freeze, List.foldl_nil, subOs, subO, subEv, subV_succ, subM, ldCells, objAt, ↓callT, callC, callV, callH, normArgs, normA, normC, resL, res8_eq, res_succ, resM, shiftR, shift1, AV.cells, TK.cells, AV.definite, AV.pureLeaf, AV.pureB, Op.operands, List.getElem?_toArray, List.getElem?_cons_succ, List.getElem?_cons_zero, Option.bind_some, Option.getD_some, reduceCtorEq, Nat.reduceEqDiff, Nat.reduceAdd, Nat.reduceLT, List.nil_append, List.append_nil, List.cons_append, List.length_cons, List.length_nil, List.map_cons, List.map_nil, Nat.zero_add, ite_true, ite_false, Option.some.injEq, Prod.mk.injEq, Bool.if_true_left, Bool.decide_eq_true, List.all_cons, List.all_nil, Bool.and_self, and_self, Bool.not_eq_true', exists_eq_left', List.length_map, List.toList_toArray, cSl_dec, lOne_dec, pureB_bytes, List.contains_cons, List.contains_nil, Nat.reduceBEq, Bool.or_self, List.range'_zero, decL_str, C1by_ns, C1by_pre, C1by_r, C1by_H, optP_some, optV_some, optH_some, List.getD_cons_zero, Nat.lt_irrefl, Nat.zero_lt_succ, C1by_it, regH_none, isNext, nextF, nextG, selC_false, ↓msel, muC, ↓callP, C1by_mu, C1mby_mu, tk50, tk52, dz52, kXGet, kLSize, kXSet, hXf, pureB_aRs, List.length_map, xH, xH', kXPut, c95, e95, ec, cz]
      refine ⟨hrf, ?_⟩
      (repeat' first | exact rfl | apply And.intro | exact subX_eq rfl (pureB_bytes _) | exact subX_eq rfl (pureB_aPs _) | exact subX_eq rfl rfl | decide | omega | apply subX_one)
      all_goals try simp (maxSteps := 4000000) only [subL]
      all_goals exact subX_eq rfl (pureB_aRs _)
    · have cz : decide (lsz rl > 4096) = false := decide_eq_false hz
      rw [if_neg hz]
      have hl1 := zSet_len 48 (rk, rl) z
      simp (maxSteps := 4000000) only [↓wpA_H, ↓wpH_skip, ↓wpH_ret, ↓wpH_seq, ↓wpH_cond, ↓wpH_block, ↓wpH_region, bselH_true, ↓iselH_true, ↓iselH_false, bselH_false, runH_nil, runH_cons, gw, gselH_plain, gselH_if, kselH_1, cselH_bool, gkind, ↓chk, justK, noW, ↓oneK, ↓pureK, ↓heapK, envOf, ↓thenA_normal, ↓thenA_ret, ↓blockA_ret, ↓stepEv, opnd, Pg.look, binK, intOp, dstOf, Bool.and_true, Bool.not_false, Bool.false_eq_true, false_implies, implies_true, imp_self, true_and, and_true, pickC, pickV, unc, gof, mux, mergeK, condsL, valV, heapV, footV, binV, intV, alives, aliveO, nxtQ, hdS, pairsA, frzA, closeQ_nil, closeQ_succ, diagQ_zero, diagQ_succ, Nat.reduceAdd, mergeable, look_stripE, ofV, ofLeaf, sameK, retA, resK, tupA, subA, subQ, ptrsE, pairsO, frzO, subF, subG, pickOf, assocN, pairsE, pairsC, pairsL, pairs0, frzE, frzC, frzL, frz0, frzH, Pg.freeze, List.foldl_nil, subOs, subO, subEv, subV_succ, subM, ldCells, objAt, ↓callT, callC, callV, callH, normArgs, normA, normC, normL, resL, res8_eq, res_succ, resM, shiftR, shift1, AV.cells, TK.cells, AV.definite, AV.pureLeaf, AV.pureB, Op.operands, List.getElem?_toArray, List.getElem?_cons_succ, List.getElem?_cons_zero, Option.bind_some, Option.getD_some, reduceCtorEq, Nat.reduceEqDiff, Nat.reduceAdd, Nat.reduceLT, Nat.reduceSub, List.nil_append, List.append_nil, List.cons_append, List.length_cons, List.length_nil, List.map_cons, List.map_nil, List.set_cons_zero, List.set_cons_succ, Nat.zero_add, Int.reduceToNat, ite_true, ite_false, Option.some.injEq, Prod.mk.injEq, Bool.if_true_left, Bool.decide_eq_true, List.all_cons, List.all_nil, Bool.and_self, and_self, Bool.not_eq_true', exists_eq_left', List.length_map, cInt_dec, List.toList_toArray, length_ofBytes, cByte_lit, Int.reduceLE, Int.reduceLT, UInt8.reduceOfNat, decL_byte, cSl_dec, cAgg_dec, lOne_dec, lCons_dec, dec2_some, pureB_bytes, List.contains_cons, List.contains_nil, Nat.reduceBEq, Bool.or_self, Bool.or_false, beq_self_eq_true, List.range'_zero, decL_str, C1by_ns, C1by_pre, C1by_r, C1by_H, optP_some, optV_some, optH_some, List.getD_cons_zero, List.getD_cons_succ, cutL, List.drop_zero, List.take_succ_cons, Nat.sub_zero, Nat.le_refl, Nat.lt_irrefl, List.take_nil, Nat.zero_lt_succ, C1by_it, regH_none, isNext, nextF, nextG, selC_false, ↓msel, muC, ↓callP, ↓callU, ↓callUV, ↓callUH, ↓callUF, C1by_mu, C1mby_mu, runM_eq, mkM_some, hNil_dec, hCons_dec, app3_some, hP_dec, hP1_some, hP2_some, hO1_some, hO2_arr, hOwn_dec, hB1_some, hB2_arr, hBox_dec, hAgg_dec, pickF, nodupB, somes, fresh, gids, gid, putO, ren, renL, renO, List.range'_succ, tk50, tk52, dz52, kXGet, kLSize, kXSet, hXf, decL_aRs, length_aRs, pureB_aRs, renL_aRs, renL_bytes, List.length_map, zip_self, xH, xH', kXPut, c95, e95, ec, cz]
      refine ⟨hrf, by omega, by omega, ?_⟩
      (repeat' first | exact rfl | apply And.intro | exact subX_eq rfl (pureB_bytes _) | exact subX_eq rfl (pureB_aPs _) | exact subX_eq rfl rfl | decide | omega | apply subX_one)
      all_goals try simp (maxSteps := 4000000) only [subL]
      all_goals exact subX_eq rfl (pureB_aRs _)

def kXYank : C1 := C1.mby (hCons hXf (hCons (hP .id cByte) (hCons (hP (.ag [none, some 1]) cRgV) hNil))) (fun d => (d.1.1.length = d.1.2.1.length ∧ d.1.1.length ≤ 900) ∧ stockR (d.1.1.zip d.1.2.1) ∧ okArg d.2.2.1) (fun d => .int .i64 (xSet (zSet 48) (d.1.1.zip d.1.2.1) d.2.1 d.2.2.1).1)
  (fun d => xH' (zNr (xSet (zSet 48) (d.1.1.zip d.1.2.1) d.2.1 d.2.2.1).2) (zPr (xSet (zSet 48) (d.1.1.zip d.1.2.1) d.2.1 d.2.2.1).2))
theorem ok_XYank : C1OK Try.prog 38 kXYank := C1OK.mby (by kernel_rfl) (fun d h => by
    have := calls_XYank (d.1.1.zip d.1.2.1) d.2.1 d.2.2.1 h.2.1 h.2.2 (by rw [List.length_zip]; have := h.1.2; omega)
    rw [(zip_z _ _ h.1.1).1, (zip_z _ _ h.1.1).2] at this
    exact this) (fun _ _ => by show 3 ≤ 5; omega)
end Go.Pg
namespace Go.Pg
open Go Go.Proofs

def dg (k : Nat) : UInt8 := UInt8.ofNat (49 + k)
theorem dg_toNat {k : Nat} (hk : k ≤ 100) : (dg k).toNat = 49 + k := by unfold dg; rw [UInt8.toNat_ofNat']; omega
theorem gname_dg {k : Nat} (hk : k ≤ 8) : gname (dg k) = dg k := by
  have ht := dg_toNat (k := k) (by omega)
  unfold gname
  rw [if_neg (fun e => by rw [e] at ht; simp at ht; omega), if_neg (by simp only [isUp, Bool.and_eq_true, decide_eq_true_eq]; omega)]
/-- Registers 1 to 8 go down by one. -/
def zSh : Nat → Rgs → Rgs
  | 0, z => z
  | k + 1, z => zSh k (match look1 (dg k) z with
    | some w => zSet (dg (k + 1)) w z
    | none => z)
def zCut (r : RgV) (z : Rgs) : Rgs := if (r.1 != 1 && decide ((r.2.length : Int) ≤ 1)) = true then zSet 45 r z else zSet 49 r (zSh 8 z)
theorem cXCut : CtrOK Try.prog [(43, kXGet), (38, kXYank), (32, kLSize), (56, kXSet)] :=
  CtrOK.cons ok_XGet (CtrOK.cons ok_XYank (CtrOK.cons ok_LSizeR (CtrOK.cons ok_XSet (CtrOK.nil _))))

set_option maxRecDepth 20000 in
set_option maxHeartbeats 8000000 in
theorem calls_XCut (z : Rgs) (b : UInt8) (r : RgV) (hst : stockR z) (hr : okArg r) (hn : z.length ≤ 900) :
    CallsR Try.prog 41 [.ptr 0 2 1 0 0, .int .u8 b.toNat, aRg r] (xH (zNr z) (zPr z))
      (.int .i64 (xSet zCut z b r).1) (xH' (zNr (xSet zCut z b r).2) (zPr (xSet zCut z b r).2)) := by
  refine callsR_of (mrg := true) (dyn := [8]) (cXCut) mixed Try.func41 rfl (by simp [Try.ntmps41]) (by kernel_rfl) ?_
  rw [show Try.f41.results.toList = [.tmp 6] from by kernel_rfl]
  obtain ⟨rk, rl⟩ := r
  have hrf : fitR rl := okArg_fit hr
  have c0 : ((b.toNat : Int) != 0) = !(b == 0) := ne_lit b 0 (by omega)
  have c34 : ((b.toNat : Int) != 34) = !(b == 34) := ne_lit b 34 (by omega)
  by_cases hb : b ≠ 0 ∧ b ≠ 34
  · have e0 : (b == 0) = false := beq_eq_false_iff_ne.2 hb.1
    have e34 : (b == 34) = false := beq_eq_false_iff_ne.2 hb.2
    have hx : xSet zCut z b (rk, rl) = xSet (zSet 48) z b (rk, rl) := by
      unfold xSet
      rw [if_pos hb, if_pos hb]
    rw [hx]
    simp (maxSteps := 4000000) only [↓wpA_H, ↓wpH_ret, ↓wpH_seq, ↓wpH_cond, ↓wpH_region, ↓iselH_true, bselH_false, runH_nil, runH_cons, gw, gselH_plain, gselH_if, kselH_1, cselH_bool, gkind, ↓chk, justK, noW, ↓oneK, ↓pureK, ↓heapK, envOf, ↓thenA_normal, ↓thenA_ret, ↓stepEv, opnd, Pg.look, binK, intOp, dstOf, Bool.and_true, Bool.not_false, Bool.not_true, Bool.false_eq_true, Bool.true_eq_false, implies_true, true_and, and_true, pickC, pickV, unc, gof, mux, mergeK, condsL, valV, heapV, footV, binV, intV, alives, aliveO, nxtQ, hdS, pairsA, frzA, closeQ_nil, closeQ_succ, diagQ_zero, diagQ_succ, Nat.reduceAdd, mergeable, look_stripE, ofV, ofLeaf, sameK, retA, resK, tupA, subA, subQ, ptrsE, pairsO, frzO, subF, subG, pickOf, assocN, pairsE, pairsC, pairsL, pairs0, frzE, frzC, frzL, frz0, frzH, Pg.freeze, List.foldl_nil, subOs, subO, subEv, subV_succ, subM, ldCells, objAt, ↓callT, normA, normC, normL, resL, res8_eq, res_succ, resM, AV.cells, TK.cells, AV.definite, AV.pureLeaf, AV.pureB, Op.operands, List.getElem?_toArray, List.getElem?_cons_succ, List.getElem?_cons_zero, Option.bind_some, Option.getD_some, reduceCtorEq, Nat.reduceEqDiff, Nat.reduceAdd, Nat.reduceLT, Nat.reduceSub, List.nil_append, List.append_nil, List.cons_append, List.length_cons, List.length_nil, List.map_cons, List.map_nil, List.set_cons_zero, List.set_cons_succ, Nat.zero_add, ite_true, ite_false, Option.some.injEq, List.all_cons, List.all_nil, Bool.and_self, and_self, exists_eq_left', List.length_map, cInt_dec, List.toList_toArray, length_ofBytes, cByte_dec, decL_byte, cSl_dec, cAgg_dec, lOne_dec, lCons_dec, dec2_some, pureB_bytes, List.contains_cons, List.contains_nil, Nat.reduceBEq, Bool.or_self, List.range'_zero, decL_str, List.getD_cons_zero, List.getD_cons_succ, cutL, List.drop_zero, List.take_succ_cons, Nat.sub_zero, Nat.le_refl, Nat.lt_irrefl, List.take_nil, Nat.zero_lt_succ, regH_none, isNext, nextF, nextG, selC_false, ↓msel, muC, ↓callU, ↓callUV, ↓callUH, ↓callUF, C1by_mu, C1mby_mu, runM_eq, mkM_some, hNil_dec, hCons_dec, app3_some, hP_dec, hP1_some, hP2_some, hO1_some, hO2_arr, hOwn_dec, hB1_some, hB2_arr, hBox_dec, hAgg_dec, pickF, nodupB, somes, fresh, gids, gid, putO, ren, renL, renO, List.range'_succ, tk52, dz52, kXGet, kLSize, kXSet, hXf, decL_aRs, length_aRs, pureB_aRs, renL_aRs, renL_bytes, List.length_map, zip_self, xH, xH', kXYank, c0, e0, c34, e34]
    refine ⟨⟨by omega, hst, hr⟩, ?_⟩
    (repeat' first | exact rfl | apply And.intro | exact subX_eq rfl (pureB_bytes _) | exact subX_eq rfl (pureB_aPs _) | exact subX_eq rfl rfl | decide | omega | apply subX_one)
    all_goals try simp (maxSteps := 4000000) only [subL]
    all_goals exact subX_eq rfl (pureB_aRs _)
  · have e34 : (b == 0) = false → (b == 34) = true := fun h => by
      rw [beq_eq_false_iff_ne] at h
      rw [beq_iff_eq]
      exact Classical.byContradiction fun h2 => hb ⟨h, h2⟩
    have ec : ((b.toNat : Int) != 0 && (b.toNat : Int) != 34) = false := by
      rw [c0, c34]
      cases hx : (b == 0) with
      | true => rfl
      | false => rw [e34 hx]; rfl
    have h95 : b ≠ 95 := fun e => hb (by rw [e]; decide)
    unfold xSet
    rw [if_neg h95, if_neg hb]
    by_cases hz : lsz rl > 4096
    · have cz : decide (lsz rl > 4096) = true := decide_eq_true hz
      rw [if_pos hz]
      simp (maxSteps := 4000000) only [↓wpA_H, ↓wpH_skip, ↓wpH_ret, ↓wpH_seq, ↓wpH_cond, ↓wpH_region, ↓iselH_true, ↓iselH_false, bselH_false, runH_nil, runH_cons, gw, gselH_plain, gselH_if, kselH_1, cselH_bool, gkind, ↓chk, justK, noW, ↓oneK, ↓pureK, ↓heapK, envOf, ↓thenA_normal, ↓thenA_ret, ↓stepEv, opnd, Pg.look, binK, intOp, dstOf, Bool.and_true, Bool.false_eq_true, false_implies, implies_true, imp_self, true_and, and_true, pickC, pickV, unc, gof, mux, mergeK, condsL, valV, heapV, footV, binV, intV, alives, aliveO, nxtQ, hdS, pairsA, frzA, closeQ_nil, closeQ_succ, diagQ_zero, diagQ_succ, Nat.reduceAdd, mergeable, look_stripE, ofV, ofLeaf, sameK, retA, resK, tupA, subA, subQ, ptrsE, pairsO, frzO, subF, subG, pickOf, assocN, pairsE, pairsC, pairsL, pairs0, frzE, frzC, frzL, frz0, frzH, Pg.freeze, List.foldl_nil, subOs, subO, subEv, subV_succ, subM, ldCells, objAt, ↓callT, callC, callV, callH, normArgs, normA, normC, resL, res8_eq, res_succ, resM, shiftR, shift1, AV.cells, TK.cells, AV.definite, AV.pureLeaf, AV.pureB, Op.operands, List.getElem?_toArray, List.getElem?_cons_succ, List.getElem?_cons_zero, Option.bind_some, Option.getD_some, reduceCtorEq, Nat.reduceEqDiff, Nat.reduceAdd, Nat.reduceLT, List.nil_append, List.append_nil, List.cons_append, List.length_cons, List.length_nil, List.map_cons, List.map_nil, Nat.zero_add, ite_true, ite_false, Option.some.injEq, Prod.mk.injEq, Bool.if_false_right, Bool.decide_eq_true, List.all_cons, List.all_nil, Bool.and_self, and_self, exists_eq_left', List.length_map, List.toList_toArray, cSl_dec, lOne_dec, pureB_bytes, List.contains_cons, List.contains_nil, Nat.reduceBEq, Bool.or_self, List.range'_zero, decL_str, C1by_ns, C1by_pre, C1by_r, C1by_H, optP_some, optV_some, optH_some, List.getD_cons_zero, Nat.lt_irrefl, Nat.zero_lt_succ, C1by_it, regH_none, isNext, nextF, nextG, selC_false, ↓msel, muC, ↓callP, C1by_mu, C1mby_mu, tk50, tk52, dz52, kXGet, kLSize, kXSet, hXf, pureB_aRs, List.length_map, xH, xH', kXYank, ec, cz]
      refine ⟨hrf, ?_⟩
      (repeat' first | exact rfl | apply And.intro | exact subX_eq rfl (pureB_bytes _) | exact subX_eq rfl (pureB_aPs _) | exact subX_eq rfl rfl | decide | omega | apply subX_one)
      all_goals try simp (maxSteps := 4000000) only [subL]
      all_goals exact subX_eq rfl (pureB_aRs _)
    · have cz : decide (lsz rl > 4096) = false := decide_eq_false hz
      rw [if_neg hz]
      cases hc : (rk != 1 && decide ((rl.length : Int) ≤ 1)) with
      | true =>
        have hcu : zCut (rk, rl) z = zSet 45 (rk, rl) z := if_pos hc
        have hck : (rk == 1 || decide ((rl.length : Int) > 1)) = false := by
          simp only [Bool.and_eq_true, bne_iff_ne, ne_eq, decide_eq_true_eq] at hc
          simp only [Bool.or_eq_false_iff, beq_eq_false_iff_ne, ne_eq, decide_eq_false_iff_not]
          exact ⟨hc.1, by omega⟩
        have hl1 := zSet_len 45 (rk, rl) z
        rw [hcu]
        simp (maxSteps := 4000000) only [↓wpA_H, ↓wpH_skip, ↓wpH_ret, ↓wpH_seq, ↓wpH_cond, ↓wpH_region, ↓iselH_false, bselH_false, runH_nil, runH_cons, gw, gselH_plain, gselH_if, kselH_1, cselH_bool, gkind, ↓chk, justK, noW, ↓oneK, ↓pureK, ↓heapK, envOf, ↓thenA_normal, ↓stepEv, opnd, Pg.look, binK, intOp, dstOf, Bool.and_true, Bool.not_false, Bool.false_eq_true, false_implies, implies_true, imp_self, true_and, and_true, pickC, pickV, unc, gof, mux, mergeK, condsL, valV, heapV, footV, binV, intV, alives, aliveO, nxtQ, hdS, pairsA, frzA, closeQ_nil, closeQ_succ, diagQ_zero, diagQ_succ, Nat.reduceAdd, mergeable, look_stripE, ofV, ofLeaf, sameK, retA, resK, tupA, subA, subQ, ptrsE, pairsO, frzO, subF, subG, pickOf, assocN, pairsE, pairsC, pairsL, pairs0, frzE, frzC, frzL, frz0, frzH, Pg.freeze, List.foldl_nil, subOs, subO, subEv, subV_succ, subM, slen, ldCells, objAt, ↓callT, callC, callV, callH, normArgs, normA, normC, normL, resL, res8_eq, res_succ, resM, shiftR, shift1, AV.cells, TK.cells, AV.definite, AV.pureLeaf, AV.pureB, Op.operands, Call.operands, Array.toList_append, List.getElem?_toArray, List.getElem?_cons_succ, List.getElem?_cons_zero, Option.bind_some, Option.getD_some, reduceCtorEq, Nat.reduceEqDiff, Nat.reduceAdd, Nat.reduceLT, Nat.reduceSub, List.nil_append, List.append_nil, List.cons_append, List.length_cons, List.length_nil, List.map_cons, List.map_nil, List.set_cons_zero, List.set_cons_succ, Nat.zero_add, Int.reduceToNat, ite_true, ite_false, Option.some.injEq, AV.int.injEq, Prod.mk.injEq, Bool.if_false_right, Bool.if_true_left, Bool.decide_eq_true, List.all_cons, List.all_nil, Bool.and_self, and_self, Bool.not_eq_true', exists_eq_left', List.length_map, cInt_dec, List.toList_toArray, length_ofBytes, cByte_lit, Int.reduceLE, Int.reduceLT, UInt8.reduceOfNat, decL_byte, cSl_dec, cAgg_dec, lOne_dec, lCons_dec, dec2_some, pureB_bytes, List.contains_cons, List.contains_nil, Nat.reduceBEq, Bool.or_self, List.range'_zero, decL_str, C1by_ns, C1by_pre, C1by_r, C1by_H, optP_some, optV_some, optH_some, List.getD_cons_zero, List.getD_cons_succ, cutL, List.drop_zero, List.take_succ_cons, Nat.add_zero, Nat.sub_zero, Nat.le_refl, Nat.lt_irrefl, List.take_nil, Nat.zero_lt_succ, C1by_it, regH_none, isNext, nextF, nextG, selC_false, ↓msel, muC, ↓callP, ↓callU, ↓callUV, ↓callUH, ↓callUF, C1by_mu, C1mby_mu, runM_eq, mkM_some, hNil_dec, hCons_dec, app3_some, hP_dec, hP1_some, hP2_some, hO1_some, hO2_arr, hOwn_dec, hB1_some, hB2_arr, hBox_dec, hAgg_dec, pickF, nodupB, somes, fresh, gids, gid, putO, ren, renL, renO, List.range'_succ, tk3, tk50, tk52, dz52, kXGet, kLSize, kXSet, hXf, decL_aRs, length_aRs, pureB_aRs, renL_aRs, renL_bytes, List.length_map, zip_self, xH, xH', kXYank, ec, cz, hck]
        refine ⟨hrf, by omega, by omega, ?_⟩
        (repeat' first | exact rfl | apply And.intro | exact subX_eq rfl (pureB_bytes _) | exact subX_eq rfl (pureB_aPs _) | exact subX_eq rfl rfl | decide | omega | apply subX_one)
        all_goals try simp (maxSteps := 4000000) only [subL]
        all_goals exact subX_eq rfl (pureB_aRs _)
      | false =>
        have hcu : zCut (rk, rl) z = zSet 49 (rk, rl) (zSh 8 z) := if_neg (by rw [hc]; simp)
        have hck : (rk == 1 || decide ((rl.length : Int) > 1)) = true := by
          simp only [Bool.and_eq_false_iff, bne_eq_false_iff_eq, decide_eq_false_iff_not] at hc
          simp only [Bool.or_eq_true, beq_iff_eq, decide_eq_true_eq]
          rcases hc with h | h
          · exact .inl h
          · exact .inr (by omega)
        rw [hcu]
        simp (maxSteps := 4000000) only [↓wpA_H, ↓wpH_skip, ↓wpH_seq, ↓wpH_cond, ↓wpH_block, ↓wpH_loop, ↓wpH_region, ↓iselH_true, ↓iselH_false, bselH_false, runH_nil, runH_cons, gw, gselH_plain, gselH_if, kselH_1, cselH_bool, gkind, ↓chk, justK, noW, ↓oneK, ↓pureK, ↓heapK, envOf, ↓thenA_normal, ↓stepEv, opnd, Pg.look, binK, intOp, dstOf, Bool.false_eq_true, false_implies, implies_true, imp_self, true_and, and_true, pickC, pickV, unc, gof, mux, mergeK, condsL, valV, heapV, footV, binV, intV, Nat.reduceAdd, mergeable, look_stripE, ofV, ofLeaf, sameK, Pg.freeze, List.foldl_nil, slen, ldCells, objAt, ↓callT, callC, callV, callH, normArgs, normA, normC, resL, res8_eq, res_succ, resM, shiftR, shift1, AV.cells, TK.cells, AV.definite, Op.operands, Call.operands, Array.toList_append, List.getElem?_toArray, List.getElem?_cons_succ, List.getElem?_cons_zero, Option.bind_some, Option.getD_some, reduceCtorEq, Nat.reduceEqDiff, Nat.reduceAdd, List.nil_append, List.append_nil, List.cons_append, List.length_cons, List.length_nil, List.map_cons, List.map_nil, Nat.zero_add, ite_true, ite_false, Option.some.injEq, AV.int.injEq, Prod.mk.injEq, Bool.if_false_right, Bool.if_true_left, Bool.decide_eq_true, Bool.and_self, and_self, Bool.not_eq_true', exists_eq_left', List.length_map, List.toList_toArray, cSl_dec, lOne_dec, List.contains_cons, List.contains_nil, Nat.reduceBEq, Bool.or_self, List.range'_zero, decL_str, C1by_ns, C1by_pre, C1by_r, C1by_H, optP_some, optV_some, optH_some, List.getD_cons_zero, Nat.add_zero, Nat.zero_lt_succ, C1by_it, regH_none, isNext, nextF, nextG, selC_false, ↓msel, muC, ↓callP, C1by_mu, C1mby_mu, tk3, tk50, tk52, dz52, kXGet, kLSize, kXSet, hXf, List.length_map, xH, xH', kXYank, ec, cz, hck]
        refine ⟨hrf, ?_⟩
        refine loopH_intro (α := Nat × Rgs) (fun x => ([(7, .int .u8 (dg x.1).toNat), (6, .int .i64 0), (5, .ptr 3 2 1 0 0), (0, .ptr 0 2 1 0 0)], [.arr 70 2 [.agg [.own 4 1 x.2.length, .own 5 2 x.2.length]], .dead, .dead, .arr 52 2 [aRg (rk, rl)], .arr 5 1 (ofBytes (zNr x.2)), .arr 52 2 (aRs (zPr x.2))]))
            (fun x => x.1 ≤ 8 ∧ zSh x.1 x.2 = zSh 8 z ∧ x.2.length + x.1 ≤ z.length + 8) (fun x => x.1) (8, z) ⟨Nat.le_refl _, rfl, Nat.le_refl _⟩ ?_ ?_
        · simp (maxSteps := 4000000) only [Pg.look, Bool.and_true, Bool.false_eq_true, true_and, and_true, alives, aliveO, nxtQ, hdS, pairsA, frzA, closeQ_nil, closeQ_succ, diagQ_zero, diagQ_succ, Nat.reduceAdd, subA, subQ, ptrsE, pairsO, frzO, subF, subG, pickOf, assocN, pairsE, pairsC, pairsL, pairs0, frzE, frzC, frzL, frz0, frzH, Pg.freeze, List.foldl_nil, subOs, subO, subEv, subV_succ, subM, AV.cells, AV.pureLeaf, AV.pureB, List.getElem?_cons_succ, List.getElem?_cons_zero, reduceCtorEq, Nat.reduceEqDiff, Nat.reduceAdd, Nat.reduceLT, List.nil_append, List.append_nil, List.cons_append, Nat.zero_add, ite_true, ite_false, List.all_cons, List.all_nil, Bool.and_self, and_self, pureB_bytes, Int.cast_ofNat_Int, Nat.lt_irrefl, Nat.zero_lt_succ, pureB_aRs, show (dg 8).toNat = 57 from rfl]
          (repeat' first | exact rfl | apply And.intro | exact subX_eq rfl (pureB_bytes _) | exact subX_eq rfl (pureB_aPs _) | exact subX_eq rfl rfl | decide | omega | apply subX_one)
          all_goals try simp (maxSteps := 4000000) only [subL]
          all_goals exact subX_eq rfl (pureB_aRs _)
        rintro ⟨k, m⟩ ⟨gk, gm, gl⟩
        have hk : k ≤ 8 := gk
        have hm : zSh k m = zSh 8 z := gm
        have hml : m.length + k ≤ z.length + 8 := gl
        clear gk gm gl
        cases k with
        | zero =>
          have hm : m = zSh 8 z := hm
          have hc2 : decide (((dg 0).toNat : Int) > 49) = false := rfl
          have hl1 := zSet_len 49 (rk, rl) m
          rw [← hm]
          simp (maxSteps := 4000000) only [↓wpA_H, ↓wpH_ret, ↓wpH_exit, ↓wpH_seq, ↓wpH_cond, ↓wpH_region, ↓iselH_false, bselH_false, runH_nil, runH_cons, gw, gselH_plain, cselH_bool, ↓chk, justK, noW, ↓oneK, ↓pureK, ↓heapK, ↓thenA_normal, ↓thenA_exit, ↓blockA_exit, ↓stepEv, opnd, Pg.look, binK, intOp, Bool.and_true, Bool.not_false, Bool.false_eq_true, implies_true, true_and, and_true, valV, heapV, footV, binV, intV, alives, aliveO, nxtQ, hdS, pairsA, frzA, closeQ_nil, closeQ_succ, diagQ_zero, diagQ_succ, Nat.reduceAdd, ofV, ofLeaf, retA, resK, tupA, subA, subQ, ptrsE, pairsO, frzO, subF, subG, pickOf, assocN, pairsE, pairsC, pairsL, pairs0, frzE, frzC, frzL, frz0, frzH, Pg.freeze, List.foldl_nil, subOs, subO, subEv, subV_succ, subM, ldCells, objAt, ↓callT, normA, normC, normL, resL, res8_eq, res_succ, resM, AV.cells, TK.cells, AV.pureLeaf, AV.pureB, List.getElem?_cons_succ, List.getElem?_cons_zero, Option.getD_some, reduceCtorEq, Nat.reduceEqDiff, Nat.reduceAdd, Nat.reduceLT, Nat.reduceSub, List.nil_append, List.append_nil, List.cons_append, List.length_cons, List.length_nil, List.map_cons, List.map_nil, List.set_cons_zero, List.set_cons_succ, Nat.zero_add, Int.reduceToNat, ite_true, ite_false, Option.some.injEq, List.all_cons, List.all_nil, Bool.and_self, and_self, exists_eq_left', List.length_map, cInt_dec, length_ofBytes, cByte_lit, Int.reduceLE, Int.reduceLT, UInt8.reduceOfNat, decL_byte, cSl_dec, cAgg_dec, lOne_dec, lCons_dec, dec2_some, pureB_bytes, List.contains_cons, List.contains_nil, Nat.reduceBEq, Bool.or_self, List.range'_zero, decL_str, List.getD_cons_zero, List.getD_cons_succ, cutL, List.drop_zero, List.take_succ_cons, Nat.sub_zero, Nat.le_refl, Nat.lt_irrefl, List.take_nil, Nat.zero_lt_succ, regH_none, isNext, nextF, nextG, selC_false, ↓msel, muC, ↓callU, ↓callUV, ↓callUH, ↓callUF, C1by_mu, C1mby_mu, runM_eq, mkM_some, hNil_dec, hCons_dec, app3_some, hP_dec, hP1_some, hP2_some, hO1_some, hO2_arr, hOwn_dec, hB1_some, hB2_arr, hBox_dec, hAgg_dec, pickF, nodupB, somes, fresh, gids, gid, putO, ren, renL, renO, List.range'_succ, tk52, dz52, kXGet, kLSize, kXSet, hXf, decL_aRs, length_aRs, pureB_aRs, renL_aRs, renL_bytes, List.length_map, zip_self, xH, xH', kXYank, hc2]
          refine ⟨by omega, by omega, ?_⟩
          (repeat' first | exact rfl | apply And.intro | exact subX_eq rfl (pureB_bytes _) | exact subX_eq rfl (pureB_aPs _) | exact subX_eq rfl rfl | decide | omega | apply subX_one)
          all_goals try simp (maxSteps := 4000000) only [subL]
          all_goals exact subX_eq rfl (pureB_aRs _)
        | succ k =>
          have hc2 : decide (((dg (k + 1)).toNat : Int) > 49) = true := decide_eq_true (by rw [dg_toNat (by omega)]; omega)
          have hw : IntKind.u8.wrap (((dg (k + 1)).toNat : Int) - 1) = ((dg k).toNat : Int) := by
            rw [dg_toNat (by omega), dg_toNat (by omega)]
            simp [IntKind.wrap, IntKind.bits, IntKind.signed]; omega
          have hg := gname_dg (k := k) (by omega)
          cases hl : look1 (dg k) m with
          | none =>
            have hsh : zSh (k + 1) m = zSh k m := by rw [zSh, hl]
            simp (maxSteps := 4000000) only [↓wpA_H, ↓wpH_skip, ↓wpH_seq, ↓wpH_cond, ↓wpH_block, ↓wpH_region, bselH_true, ↓iselH_true, ↓iselH_false, bselH_false, runH_nil, runH_cons, gw, gselH_plain, cselH_bool, ↓chk, justK, noW, ↓oneK, ↓pureK, ↓heapK, ↓thenA_normal, ↓blockA_normal, ↓stepEv, opnd, Pg.look, binK, intOp, Bool.and_true, Bool.not_false, Bool.false_eq_true, false_implies, implies_true, true_and, and_true, valV, heapV, footV, binV, intV, alives, aliveO, nxtQ, hdS, pairsA, frzA, closeQ_nil, closeQ_succ, diagQ_zero, diagQ_succ, Nat.reduceAdd, ofV, ofLeaf, subA, subQ, ptrsE, pairsO, frzO, subF, subG, pickOf, assocN, pairsE, pairsC, pairsL, pairs0, frzE, frzC, frzL, frz0, frzH, Pg.freeze, List.foldl_nil, subOs, subO, subEv, subV_succ, subM, ↓callT, normA, res8_eq, res_succ, resM, AV.cells, TK.cells, AV.definite, AV.leaf, AV.leafy, AV.pureLeaf, AV.pureB, putCells, lay, List.getElem?_cons_succ, List.getElem?_cons_zero, Option.getD_some, Option.getD_none, reduceCtorEq, Nat.reduceEqDiff, Nat.reduceAdd, Nat.reduceLT, Nat.reduceSub, List.nil_append, List.append_nil, List.cons_append, List.length_cons, List.length_nil, List.map_cons, List.map_nil, List.set_cons_zero, List.set_cons_succ, Nat.zero_add, ite_true, ite_false, Option.some.injEq, Option.isSome_none, List.all_cons, List.all_nil, Bool.and_self, and_self, exists_eq_left', List.length_map, length_ofBytes, cByte_dec, decL_byte, pureB_bytes, List.contains_cons, List.contains_nil, Nat.reduceBEq, Bool.or_self, Bool.or_false, beq_self_eq_true, List.range'_zero, List.getD_cons_zero, List.getD_cons_succ, List.drop_succ_cons, List.take_zero, Nat.sub_self, Nat.le_refl, Nat.lt_irrefl, List.drop_nil, Nat.zero_lt_succ, regH_none, isNext, nextF, nextG, selC_false, ↓msel, muC, ↓callU, ↓callUV, ↓callUH, ↓callUF, C1by_mu, C1mby_mu, runM_eq, mkM_some, hNil_dec, hCons_dec, app3_some, hP_dec, hP1_some, hP2_some, hO1_some, hO2_arr, hOwn_dec, hB1_some, hB2_arr, hBox_dec, hAgg_dec, pickF, nodupB, somes, fresh, gids, gid, putO, ren, renL, renO, tk52, tz52, dz52, kXGet, kLSize, kXSet, hXf, decL_aRs, length_aRs, pureB_aRs, renL_aRs, renL_bytes, List.length_map, zip_self, xH, xH', kXYank, hc2, hw, hg, hl]
            refine ⟨by omega, (k, m), ⟨by show k ≤ 8; omega, by rw [← hm, hsh], by show m.length + k ≤ z.length + 8; omega⟩, by show k < k + 1; omega, ?_⟩
            (repeat' first | exact rfl | apply And.intro | exact subX_eq rfl (pureB_bytes _) | exact subX_eq rfl (pureB_aPs _) | exact subX_eq rfl rfl | decide | omega | apply subX_one)
            all_goals try simp (maxSteps := 4000000) only [subL]
            all_goals exact subX_eq rfl (pureB_aRs _)
          | some w =>
            obtain ⟨wk, wl⟩ := w
            have hsh : zSh (k + 1) m = zSh k (zSet (dg (k + 1)) (wk, wl) m) := by rw [zSh, hl]
            have hl1 := zSet_len (dg (k + 1)) (wk, wl) m
            simp (maxSteps := 4000000) only [↓wpA_H, ↓wpH_skip, ↓wpH_seq, ↓wpH_cond, ↓wpH_block, ↓wpH_region, bselH_true, ↓iselH_true, bselH_false, runH_nil, runH_cons, gw, gselH_plain, cselH_bool, ↓chk, justK, noW, ↓oneK, ↓pureK, ↓heapK, ↓thenA_normal, ↓blockA_normal, ↓stepEv, opnd, Pg.look, binK, intOp, Bool.and_true, Bool.not_false, Bool.false_eq_true, false_implies, implies_true, true_and, and_true, valV, heapV, footV, binV, intV, alives, aliveO, nxtQ, hdS, pairsA, frzA, closeQ_nil, closeQ_succ, diagQ_zero, diagQ_succ, Nat.reduceAdd, ofV, ofLeaf, subA, subQ, ptrsE, pairsO, frzO, subF, subG, pickOf, assocN, pairsE, pairsC, pairsL, pairs0, frzE, frzC, frzL, frz0, frzH, Pg.freeze, List.foldl_nil, subOs, subO, subEv, subV_succ, subM, ldCells, objAt, ↓callT, normA, normC, normL, resL, res8_eq, res_succ, resM, AV.cells, TK.cells, AV.definite, AV.leaf, AV.leafy, AV.pureLeaf, AV.pureB, putCells, lay, List.getElem?_cons_succ, List.getElem?_cons_zero, Option.getD_some, reduceCtorEq, Nat.reduceEqDiff, Nat.reduceAdd, Nat.reduceLT, Nat.reduceSub, List.nil_append, List.append_nil, List.cons_append, List.length_cons, List.length_nil, List.map_cons, List.map_nil, List.set_cons_zero, List.set_cons_succ, Nat.zero_add, ite_true, ite_false, Option.some.injEq, Option.isSome_some, List.all_cons, List.all_nil, Bool.and_self, and_self, exists_eq_left', List.length_map, cInt_dec, length_ofBytes, cByte_dec, decL_byte, cSl_dec, cAgg_dec, lOne_dec, lCons_dec, dec2_some, pureB_bytes, List.contains_cons, List.contains_nil, Nat.reduceBEq, Bool.or_self, Bool.or_false, beq_self_eq_true, List.range'_zero, decL_str, List.getD_cons_zero, List.getD_cons_succ, cutL, List.drop_zero, List.drop_succ_cons, List.take_succ_cons, List.take_zero, Nat.sub_zero, Nat.sub_self, Nat.le_refl, Nat.lt_irrefl, List.drop_nil, List.take_nil, Nat.zero_lt_succ, regH_none, isNext, nextF, nextG, selC_false, ↓msel, muC, ↓callU, ↓callUV, ↓callUH, ↓callUF, C1by_mu, C1mby_mu, runM_eq, mkM_some, hNil_dec, hCons_dec, app3_some, hP_dec, hP1_some, hP2_some, hO1_some, hO2_arr, hOwn_dec, hB1_some, hB2_arr, hBox_dec, hAgg_dec, pickF, nodupB, somes, fresh, gids, gid, putO, ren, renL, renO, List.range'_succ, tk52, tz52, dz52, kXGet, kLSize, kXSet, hXf, decL_aRs, length_aRs, pureB_aRs, renL_aRs, renL_bytes, List.length_map, zip_self, xH, xH', kXYank, hc2, hw, hg, hl]
            refine ⟨by omega, by omega, (k, zSet (dg (k + 1)) (wk, wl) m), ⟨by show k ≤ 8; omega, by rw [← hm, hsh], by show (zSet (dg (k + 1)) (wk, wl) m).length + k ≤ z.length + 8; omega⟩, by show k < k + 1; omega, ?_⟩
            (repeat' first | exact rfl | apply And.intro | exact subX_eq rfl (pureB_bytes _) | exact subX_eq rfl (pureB_aPs _) | exact subX_eq rfl rfl | decide | omega | apply subX_one)
            all_goals try simp (maxSteps := 4000000) only [subL]
            all_goals exact subX_eq rfl (pureB_aRs _)

def kXCut : C1 := C1.mby (hCons hXf (hCons (hP .id cByte) (hCons (hP (.ag [none, some 1]) cRgV) hNil))) (fun d => (d.1.1.length = d.1.2.1.length ∧ d.1.1.length ≤ 900) ∧ stockR (d.1.1.zip d.1.2.1) ∧ okArg d.2.2.1) (fun d => .int .i64 (xSet zCut (d.1.1.zip d.1.2.1) d.2.1 d.2.2.1).1)
  (fun d => xH' (zNr (xSet zCut (d.1.1.zip d.1.2.1) d.2.1 d.2.2.1).2) (zPr (xSet zCut (d.1.1.zip d.1.2.1) d.2.1 d.2.2.1).2))
theorem ok_XCut : C1OK Try.prog 41 kXCut := C1OK.mby (by kernel_rfl) (fun d h => by
    have := calls_XCut (d.1.1.zip d.1.2.1) d.2.1 d.2.2.1 h.2.1 h.2.2 (by rw [List.length_zip]; have := h.1.2; omega)
    rw [(zip_z _ _ h.1.1).1, (zip_z _ _ h.1.1).2] at this
    exact this) (fun _ _ => by show 3 ≤ 5; omega)
end Go.Pg
namespace Go.Pg
open Go Go.Proofs

theorem stock_upd {k : UInt8} {v : RgV} {l : Rgs} (hl : stockR l) (hv : lsz v.2 ≤ 4096) : stockR (upd k v l) := fun k' v' h => by
  rw [look1_upd] at h
  split at h
  · cases h; exact hv
  · exact hl k' v' h
end Go.Pg
namespace Go.Pg
open Go Go.Proofs

/-- The names that a register may have. -/
def okK (k : UInt8) : Prop := k.toNat = 34 ∨ k.toNat = 45 ∨ (48 ≤ k.toNat ∧ k.toNat ≤ 57) ∨ (97 ≤ k.toNat ∧ k.toNat ≤ 122)
structure Rr (m z : Rgs) : Prop where
  rm : Rm m z
  st : stockR m
  ok : ∀ k, k ∈ m.map (fun x => x.1) → okK k
theorem Rr.nil : Rr [] [] := ⟨Rm.nil, stock_nil, fun k h => by cases h⟩
theorem Rr.zst {m z : Rgs} (h : Rr m z) : stockR z := fun k v hk => h.st k v (by rw [← h.rm.get]; exact hk)
theorem Rr.set {m z : Rgs} (h : Rr m z) {b : UInt8} {p : RgV} (hb : okK b) (hp : lsz p.2 ≤ 4096) : Rr (upd b p m) (zSet b p z) :=
  ⟨h.rm.set b p, stock_upd h.st hp, fun k hk => by
    rcases (keys_upd b p m k).1 hk with rfl | h1
    · exact hb
    · exact h.ok k h1⟩
theorem dg_ok {k : Nat} (hk : k ≤ 8) : okK (dg k) := by
  unfold okK
  rw [dg_toNat (by omega)]
  omega
theorem Rr.sh {m z : Rgs} (h : Rr m z) (k : Nat) (hk : k ≤ 8) : Rr (shR k m) (zSh k z) := by
  induction k generalizing m z with
  | zero => exact h
  | succ k ih =>
    rw [shR, zSh]
    have e : look1 (dg k) z = look1 (UInt8.ofNat (49 + k)) m := h.rm.get _
    rw [e]
    cases hl : look1 (UInt8.ofNat (49 + k)) m with
    | none => exact ih h (by omega)
    | some w => exact ih (h.set (dg_ok (k := k + 1) hk) (h.st _ _ hl)) (by omega)
theorem Rr.cut {m z : Rgs} (h : Rr m z) {r : RgV} (hr : lsz r.2 ≤ 4096) : Rr (cutR r m) (zCut r z) := by
  unfold cutR zCut
  split
  · exact h.set (by unfold okK; decide) hr
  · exact (h.sh 8 (Nat.le_refl _)).set (by unfold okK; decide) hr
theorem named_eq {m z : Rgs} (h : Rr m z) (b : UInt8) (r : RgV) : namedR z b r = namedR m b r := by
  unfold namedR
  rw [h.rm.get]
theorem Rr.put {m z : Rgs} (h : Rr m z) (b : UInt8) (r : RgV) : (xPut z b r).1 = (putR m b r).1 ∧ Rr (putR m b r).2 (xPut z b r).2 := by
  unfold xPut putR
  rw [named_eq h]
  by_cases h1 : (namedR m b r).2.2 = true
  · rw [if_pos h1, if_pos h1]
    by_cases h2 : lsz (namedR m b r).2.1.2 > 4096
    · rw [if_pos h2, if_pos h2]
      exact ⟨rfl, h⟩
    · rw [if_neg h2, if_neg h2]
      refine ⟨rfl, h.set ?_ (by omega)⟩
      unfold namedR at h1 ⊢
      unfold okK
      by_cases hl : isLow b = true
      · rw [if_pos hl]
        simp only [isLow, Bool.and_eq_true, decide_eq_true_eq] at hl
        exact .inr (.inr (.inr hl))
      · rw [if_neg hl] at h1 ⊢
        by_cases hu : isUp b = true
        · rw [if_pos hu]
          simp only [isUp, Bool.and_eq_true, decide_eq_true_eq] at hu
          refine .inr (.inr (.inr ?_))
          show 97 ≤ (b + 32).toNat ∧ (b + 32).toNat ≤ 122
          rw [UInt8.toNat_add, show (32 : UInt8).toNat = 32 from rfl]
          omega
        · rw [if_neg hu] at h1
          cases h1
  · rw [if_neg h1, if_neg h1]
    exact ⟨rfl, h⟩
theorem Rr.setX {m z : Rgs} (h : Rr m z) {g g' : RgV → Rgs → Rgs} (b : UInt8) (r : RgV) (hg : lsz r.2 ≤ 4096 → Rr (g r m) (g' r z)) : (xSet g' z b r).1 = (setR g m b r).1 ∧ Rr (setR g m b r).2 (xSet g' z b r).2 := by
  unfold xSet setR
  by_cases h95 : b = 95
  · rw [if_pos h95, if_pos h95]
    exact ⟨rfl, h⟩
  rw [if_neg h95, if_neg h95]
  by_cases hb : b ≠ 0 ∧ b ≠ 34
  · rw [if_pos hb, if_pos hb]
    obtain ⟨h1, h2⟩ := h.put b r
    rw [h1]
    by_cases h0 : (putR m b r).1 = 0
    · rw [if_pos h0, if_pos h0]
      refine ⟨rfl, ?_⟩
      rw [h2.rm.get]
      refine h2.set (by unfold okK; decide) ?_
      cases hl : look1 (gname b) (putR m b r).2 with
      | none => show lsz [] ≤ _; decide
      | some v => exact h2.st _ _ hl
    · rw [if_neg h0, if_neg h0]
      exact ⟨h1, h2⟩
  · rw [if_neg hb, if_neg hb]
    by_cases hz : lsz r.2 > 4096
    · rw [if_pos hz, if_pos hz]
      exact ⟨rfl, h⟩
    · rw [if_neg hz, if_neg hz]
      exact ⟨rfl, (hg (by omega)).set (by unfold okK; decide) (by omega)⟩
theorem Rr.yank {m z : Rgs} (h : Rr m z) (b : UInt8) (r : RgV) : (xSet (zSet 48) z b r).1 = (setR (upd 48) m b r).1 ∧ Rr (setR (upd 48) m b r).2 (xSet (zSet 48) z b r).2 :=
  h.setX b r fun hr => h.set (by unfold okK; decide) hr
theorem Rr.cutX {m z : Rgs} (h : Rr m z) (b : UInt8) (r : RgV) : (xSet zCut z b r).1 = (setR cutR m b r).1 ∧ Rr (setR cutR m b r).2 (xSet zCut z b r).2 :=
  h.setX b r fun hr => h.cut hr

/-- There are no more than 48 names. -/
def pressK (k : UInt8) : UInt8 := if k.toNat < 46 then UInt8.ofNat (k.toNat - 34) else if k.toNat < 58 then UInt8.ofNat (k.toNat - 36) else UInt8.ofNat (k.toNat - 75)
theorem pressK_nat {k : UInt8} (h : okK k) : (pressK k).toNat = if k.toNat < 46 then k.toNat - 34 else if k.toNat < 58 then k.toNat - 36 else k.toNat - 75 := by
  have hk : k.toNat < 256 := k.toNat_lt
  unfold pressK
  split
  · rw [UInt8.toNat_ofNat']; omega
  · split <;> (rw [UInt8.toNat_ofNat']; omega)
theorem Rr.len {m z : Rgs} (h : Rr m z) : z.length ≤ 48 := by
  have hk : ∀ x ∈ z, okK x.1 := fun x hx => h.ok x.1 ((h.rm.mem x.1).1 (List.mem_map.2 ⟨x, hx, rfl⟩))
  have h1 := asc_len 48 (z.map fun x => (pressK x.1, x.2)) 0 (by
    refine List.pairwise_map.2 (List.Pairwise.imp_of_mem (fun {x y} hx hy hxy => ?_) h.rm.asc)
    show (pressK x.1).toNat < (pressK y.1).toNat
    rw [pressK_nat (hk x hx), pressK_nat (hk y hy)]
    have a := hk x hx
    have b := hk y hy
    unfold okK at a b
    split <;> split <;> (try split) <;> (try split) <;> omega) (fun x hx => by
    obtain ⟨y, hy, rfl⟩ := List.mem_map.1 hx
    refine ⟨Nat.zero_le _, ?_⟩
    show (pressK y.1).toNat < 48
    rw [pressK_nat (hk y hy)]
    have a := hk y hy
    unfold okK at a
    split <;> (try split) <;> omega)
  rw [List.length_map] at h1
  omega
theorem Rr.names {m z : Rgs} (h : Rr m z) : srt (keysQ m) = zNr z := by
  have h1 := srt_perm h.rm.perm
  have h2 : srt (z.map (fun x => x.1)) = z.map (fun x => x.1) := by
    refine List.mergeSort_of_pairwise ?_
    refine List.pairwise_map.2 (h.rm.asc.imp fun hxy => ?_)
    rw [leU_iff]; omega
  exact h1.trans h2
end Go.Pg
namespace Go.Pg
open Go Go.Proofs

theorem cSame19 : CtrOK Try.prog [(49, kNamesBQ), (35, kRGet), (29, kHReg)] :=
  CtrOK.cons ok_NamesBQ (CtrOK.cons ok_RGet (CtrOK.cons ok_HReg (CtrOK.nil _)))
theorem gname_ok {k : UInt8} (h : okK k) : gname k = k := by
  unfold okK at h
  unfold gname
  rw [if_neg (fun e => by rw [e] at h; simp at h), if_neg (by simp only [isUp, Bool.and_eq_true, decide_eq_true_eq]; omega)]
theorem getD_key (z : Rgs) (i : Nat) (hi : i < z.length) : ((zNr z).getD i 0, (zPr z).getD i (0, [])) ∈ z := by
  have e1 : (zNr z).getD i 0 = z[i].1 := by
    rw [List.getD_eq_getElem?_getD, List.getElem?_map, List.getElem?_eq_getElem hi]; rfl
  have e2 : (zPr z).getD i (0, []) = z[i].2 := by
    rw [List.getD_eq_getElem?_getD, List.getElem?_map, List.getElem?_eq_getElem hi]; rfl
  rw [e1, e2]
  exact List.getElem_mem hi
theorem look1_asc {z : Rgs} (h : z.Pairwise (fun x y => x.1.toNat < y.1.toNat)) {x : UInt8 × RgV} (hx : x ∈ z) : look1 x.1 z = some x.2 := by
  induction z with
  | nil => cases hx
  | cons y r ih =>
    obtain ⟨hy, hr⟩ := List.pairwise_cons.1 h
    simp only [look1]
    rcases List.mem_cons.1 hx with rfl | hx
    · rw [if_pos rfl]
    · have := hy x hx
      rw [if_neg (fun e => by rw [e] at this; omega)]
      exact ih hr hx
abbrev pairH (m z : Rgs) : AH := rgH m ++ [.arr 70 2 [.agg [.own 3 1 z.length, .own 4 2 z.length]], .arr 5 1 (ofBytes (zNr z)), .arr 52 2 (aRs (zPr z))]

set_option maxRecDepth 20000 in
set_option maxHeartbeats 8000000 in
theorem calls_Same19 (m z : Rgs) (h : Rr m z) : CallsR Try.prog 42 [.ptr 0 1 1 0 0, .ptr 2 2 1 0 0] (pairH m z) (.bool true) (pairH m z) := by
  refine callsR_of (mrg := true) (dyn := [1]) (cSame19) mixed Try.func42 rfl (by simp [Try.ntmps42]) (by kernel_rfl) ?_
  rw [show Try.f42.results.toList = [.tmp 4] from by kernel_rfl]
  have hlz := h.len
  have hml := h.rm.len
  have hnm := h.names
  have hnd : decide (m.length < 50) = true := decide_eq_true (by omega)
  simp (maxSteps := 4000000) only [↓wpA_H, ↓wpH_skip, ↓wpH_seq, ↓wpH_cond, ↓wpH_block, ↓wpH_loop, ↓wpH_region, bselH_true, ↓iselH_false, bselH_false, runH_nil, runH_cons, gw, gselH_plain, cselH_bool, ↓chk, justK, noW, ↓oneK, ↓pureK, ↓heapK, envOf, ↓thenA_normal, ↓stepEv, opnd, Pg.look, binK, strOp, Bool.not_false, Bool.not_true, Bool.false_eq_true, implies_true, true_and, and_true, forall_const, valV, heapV, footV, binV, strV, Nat.reduceAdd, ofV, ofLeaf, Pg.freeze, List.foldl_nil, srcV, srcL, ldCells, objAt, ↓callT, AV.cells, TK.cells, List.getElem?_cons_succ, List.getElem?_cons_zero, Option.getD_some, reduceCtorEq, Nat.reduceEqDiff, Nat.reduceAdd, Nat.reduceSub, List.nil_append, List.append_nil, List.cons_append, List.length_cons, List.length_nil, List.map_cons, List.map_nil, List.set_cons_zero, List.set_cons_succ, Nat.zero_add, ite_true, ite_false, Option.some.injEq, AV.str.injEq, List.all_cons, List.all_nil, Bool.and_self, and_self, exists_eq_left', List.length_map, length_ofBytes, bytesOf_ofBytes, List.contains_cons, List.contains_nil, Nat.reduceBEq, Bool.or_self, Bool.or_false, beq_self_eq_true, List.range'_zero, List.getD_cons_zero, List.getD_cons_succ, Nat.add_zero, Nat.zero_lt_succ, regH_none, isNext, nextF, nextG, selC_false, ↓msel, muC, ↓callU, ↓callUV, ↓callUH, ↓callUF, C1by_mu, C1mby_mu, runM_eq, mkM_some, hNil_dec, hCons_dec, app3_some, hO1_some, hM1_mp, hMp_dec, hB1_some, hB2_arr, hBox_dec, hAgg_dec, pickF, nodupB, somes, fresh, gids, gid, putO, ren, renL, renO, List.range'_succ, tk5, tk9, tk32, tk70, dz70, kNamesBQ, kRGet, kHReg, hFile, decE_rg, hnm, hml, renL_bytes, List.length_map]
  refine ⟨by omega, by kernel_rfl, ?_⟩
  refine loopH_intro (α := Nat) (fun k => ([(5, .int .i64 k), (4, .bool false), (0, .ptr 0 1 1 0 0), (1, .ptr 2 2 1 0 0)], pairH m z)) (fun k => k ≤ z.length) (fun k => z.length - k) 0 (Nat.zero_le _) ?_ ?_
  · simp (maxSteps := 4000000) only [Pg.look, Bool.and_true, Bool.false_eq_true, true_and, and_true, alives, aliveO, nxtQ, hdS, pairsA, frzA, closeQ_nil, closeQ_succ, diagQ_zero, diagQ_succ, Nat.reduceAdd, subA, subQ, ptrsE, pairsO, frzO, subF, subG, pickOf, assocN, pairsE, pairsC, pairsL, pairs0, frzE, frzC, frzL, frz0, frzH, Pg.freeze, List.foldl_nil, subOs, subO, subEv, subV_succ, subM, AV.cells, AV.pureLeaf, AV.pureB, List.getElem?_cons_succ, List.getElem?_cons_zero, reduceCtorEq, Nat.reduceEqDiff, Nat.reduceAdd, Nat.reduceLT, List.nil_append, List.append_nil, List.cons_append, Nat.zero_add, ite_true, ite_false, List.all_cons, List.all_nil, Bool.and_self, and_self, pureB_bytes, Int.cast_ofNat_Int, Nat.zero_lt_succ, pureB_aRs]
    (repeat' first | exact rfl | apply And.intro | exact subX_eq rfl (pureB_bytes _) | exact subX_eq rfl (pureB_aPs _) | exact subX_eq rfl rfl | decide | omega | apply subX_one)
    all_goals try simp (maxSteps := 4000000) only [subL]
    all_goals exact subX_eq rfl (pureB_aRs _)
  intro k gk
  have hk : k ≤ z.length := gk
  clear gk
  by_cases hlt : k < z.length
  · have hc1 : decide ((k : Int) < (z.length : Int)) = true := decide_eq_true (by omega)
    have w1 : IntKind.i64.wrap ((k : Int) + 1) = ((k + 1 : Nat) : Int) := by rw [wrap64 (by omega) (by omega)]; omega
    have hmem := getD_key z k hlt
    obtain ⟨kb, hkb⟩ : ∃ kb, kb = (zNr z).getD k 0 := ⟨_, rfl⟩
    obtain ⟨kv, hkv⟩ : ∃ kv, kv = (zPr z).getD k (0, []) := ⟨_, rfl⟩
    rw [← hkb, ← hkv] at hmem
    have hg := look1_asc h.rm.asc hmem
    have hok : okK kb := h.ok kb ((h.rm.mem kb).1 (List.mem_map.2 ⟨_, hmem, rfl⟩))
    have hg2 : look1 (gname kb) m = some kv := by rw [gname_ok hok, ← h.rm.get]; exact hg
    obtain ⟨vk, vl⟩ := kv
    have hvl : vl.length ≤ 4096 := by have h1 : lsz vl ≤ 4096 := h.st _ _ hg2; have := lsz_len vl; omega
    simp (maxSteps := 4000000) only [↓wpA_H, ↓wpH_skip, ↓wpH_seq, ↓wpH_cond, ↓wpH_block, ↓wpH_region, ↓iselH_true, ↓iselH_false, bselH_false, runH_nil, runH_cons, gw, gselH_plain, gselH_if, kselH_1, cselH_bool, gkind, ↓chk, justK, noW, ↓oneK, ↓pureK, ↓heapK, ↓thenA_normal, ↓blockA_normal, ↓stepEv, opnd, Pg.look, binK, intOp, dstOf, Bool.and_true, Bool.not_false, Bool.not_true, Bool.false_eq_true, implies_true, true_and, and_true, forall_const, pickC, pickV, unc, gof, mux, mergeK, condsL, valV, heapV, footV, binV, intV, alives, aliveO, nxtQ, hdS, pairsA, frzA, closeQ_nil, closeQ_succ, diagQ_zero, diagQ_succ, Nat.reduceAdd, mergeable, look_stripE, ofV, ofLeaf, sameK, subA, subQ, ptrsE, pairsO, frzO, subF, subG, pickOf, assocN, pairsE, pairsC, pairsL, pairs0, frzE, frzC, frzL, frz0, frzH, Pg.freeze, List.foldl_nil, subOs, subO, subEv, subV_succ, subM, slen, ldCells, objAt, ↓callT, callC, callV, normArgs, normA, normC, normL, resL, res8_eq, res_succ, resM, shiftR, shift1, AV.cells, TK.cells, AV.definite, AV.leaf, AV.leafy, AV.pureLeaf, AV.pureB, putCells, lay, Op.operands, Call.operands, Array.toList_append, List.getElem?_toArray, List.getElem?_cons_succ, List.getElem?_cons_zero, Option.bind_some, Option.getD_some, reduceCtorEq, Nat.reduceEqDiff, Nat.reduceAdd, Nat.reduceLT, Nat.reduceSub, List.nil_append, List.append_nil, List.cons_append, List.length_cons, List.length_nil, List.map_cons, List.map_nil, List.set_cons_zero, List.set_cons_succ, Nat.zero_add, ite_true, ite_false, Option.some.injEq, Option.isSome_some, Option.isSome_none, AV.int.injEq, List.all_cons, List.all_nil, Bool.and_self, and_self, exists_eq_left', List.length_map, cInt_dec, List.toList_toArray, length_ofBytes, getD_ofBytes, cByte_dec, cSl_dec, cAgg_dec, lOne_dec, lCons_dec, dec2_some, pureB_bytes, List.contains_cons, List.contains_nil, Nat.reduceBEq, Bool.or_self, beq_self_eq_true, List.range'_zero, decL_str, C1by_ns, C1by_pre, C1by_r, C1by_H, optP_some, optV_some, optH_some, Int.toNat_natCast, List.getD_cons_zero, List.getD_cons_succ, cutL, List.drop_zero, List.drop_succ_cons, List.take_succ_cons, List.take_zero, Nat.add_zero, Nat.sub_zero, Nat.sub_self, Nat.le_refl, List.drop_nil, List.take_nil, Nat.zero_lt_succ, C1by_it, regH_none, isNext, nextF, nextG, selC_true, selC_false, pureC, ↓msel, muC, ↓callP, ↓callU, ↓callUV, ↓callUH, ↓callUF, C1by_mu, C1mby_mu, runM_eq, mkM_some, hNil_dec, hCons_dec, app3_some, hP_dec, hP1_some, hP2_some, hO1_some, hM1_mp, hMp_dec, hB1_some, hB2_arr, hBox_dec, hAgg_dec, pickF, nodupB, somes, fresh, gids, gid, putO, ren, renL, renO, tk5, dz5, tk32, tk52, tz52, dz52, tk68, tk70, dz70, kNamesBQ, kRGet, kHReg, hFile, decE_rg, rgH, length_aRs, pureB_aRs, getD_aRs, List.length_map, hc1, w1, ← hkb, ← hkv, hg2]
    refine ⟨⟨by omega, by omega⟩, by omega, fun v h => by (cases h; show vl.length ≤ _; omega), ⟨by omega, by omega⟩, by omega, by omega, k + 1, by omega, by omega, ?_⟩
    (repeat' first | exact rfl | apply And.intro | exact subX_eq rfl (pureB_bytes _) | exact subX_eq rfl (pureB_aPs _) | exact subX_eq rfl rfl | decide | omega | apply subX_one)
    all_goals try simp (maxSteps := 4000000) only [subL]
    all_goals exact subX_eq rfl (pureB_aRs _)
  · have hc1 : decide ((k : Int) < (z.length : Int)) = false := decide_eq_false (by omega)
    simp (maxSteps := 4000000) only [↓wpA_H, ↓wpH_ret, ↓wpH_exit, ↓wpH_seq, ↓wpH_cond, ↓wpH_region, ↓iselH_false, bselH_false, runH_nil, runH_cons, gw, gselH_plain, cselH_bool, ↓chk, justK, noW, ↓oneK, ↓pureK, ↓heapK, ↓thenA_normal, ↓thenA_exit, ↓blockA_exit, ↓stepEv, opnd, Pg.look, binK, intOp, Bool.and_true, Bool.false_eq_true, implies_true, true_and, and_true, valV, heapV, footV, binV, intV, alives, aliveO, nxtQ, hdS, pairsA, frzA, closeQ_nil, closeQ_succ, diagQ_zero, diagQ_succ, Nat.reduceAdd, ofV, ofLeaf, retA, resK, tupA, subA, subQ, ptrsE, pairsO, frzO, subF, subG, pickOf, assocN, pairsE, pairsC, pairsL, pairs0, frzE, frzC, frzL, frz0, frzH, Pg.freeze, List.foldl_nil, subOs, subO, subEv, subV_succ, subM, slen, ldCells, objAt, AV.cells, TK.cells, AV.pureLeaf, AV.pureB, List.getElem?_cons_succ, List.getElem?_cons_zero, Option.getD_some, reduceCtorEq, Nat.reduceEqDiff, Nat.reduceAdd, Nat.reduceLT, List.nil_append, List.append_nil, List.cons_append, List.length_cons, List.length_nil, Nat.zero_add, ite_true, ite_false, Option.some.injEq, AV.int.injEq, List.all_cons, List.all_nil, Bool.and_self, and_self, exists_eq_left', pureB_bytes, List.contains_cons, List.contains_nil, Nat.reduceBEq, Bool.or_self, List.getD_cons_zero, Nat.add_zero, Nat.zero_lt_succ, regH_none, isNext, nextF, nextG, selC_false, tk32, tk70, dz70, pureB_aRs, hc1]
    (repeat' first | exact rfl | apply And.intro | exact subX_eq rfl (pureB_bytes _) | exact subX_eq rfl (pureB_aPs _) | exact subX_eq rfl rfl | decide | omega | apply subX_one)
    all_goals try simp (maxSteps := 4000000) only [subL]
    all_goals exact subX_eq rfl (pureB_aRs _)
def kSame19 : C1 := C1.mby (hCons hFile (hCons hXf hNil)) (fun d => d.2.1.1.length = d.2.1.2.1.length ∧ Rr d.1.1 (d.2.1.1.zip d.2.1.2.1)) (fun _ => .bool true)
  (fun d => rgH d.1.1 ++ [.arr 70 2 [.agg [.own 3 1 d.2.1.1.length, .own 4 2 d.2.1.2.1.length]], .arr 5 1 (ofBytes d.2.1.1), .arr 52 2 (aRs d.2.1.2.1)])
theorem ok_Same19 : C1OK Try.prog 42 kSame19 := C1OK.mby (by kernel_rfl) (fun d h => by
    have := calls_Same19 d.1.1 (d.2.1.1.zip d.2.1.2.1) h.2
    unfold pairH at this
    rw [(zip_z _ _ h.1).1, (zip_z _ _ h.1).2, List.length_zip, show min d.2.1.1.length d.2.1.2.1.length = d.2.1.1.length by have := h.1; omega] at this
    rw [show (AV.own 4 2 d.2.1.1.length) = .own 4 2 d.2.1.2.1.length by rw [h.1]] at this
    exact this) (fun _ _ => by show 5 ≤ 5; omega)
end Go.Pg
namespace Go.Pg
open Go Go.Proofs

/-- What the files do by an action. -/
def actM (w : Nat) (m : Rgs) (c : UInt8) (R : RgV) : Int × Rgs := if w = 0 then setR (upd 48) m c R else if w = 3 then putR m c R else setR cutR m c R
def actZ (w : Nat) (z : Rgs) (c : UInt8) (R : RgV) : Int × Rgs := if w = 0 then xSet (zSet 48) z c R else if w = 3 then xPut z c R else xSet zCut z c R
theorem act_both {m z : Rgs} (h : Rr m z) (w : Nat) (c : UInt8) (R : RgV) : (actZ w z c R).1 = (actM w m c R).1 ∧ Rr (actM w m c R).2 (actZ w z c R).2 := by
  unfold actM actZ
  by_cases h0 : w = 0
  · rw [if_pos h0, if_pos h0]; exact h.yank c R
  · rw [if_neg h0, if_neg h0]
    by_cases h3 : w = 3
    · rw [if_pos h3, if_pos h3]; exact h.put c R
    · rw [if_neg h3, if_neg h3]; exact h.cutX c R
abbrev b200 (nm : UInt8) : Bool := decide ((nm.toNat : Int) ≥ 200)
abbrev b15 (nm : UInt8) : Bool := ((nm.toNat % 16 : Nat) : Int) == 15
abbrev bW (what : UInt8) (n : Int) : Bool := ((what.toNat % 4 : Nat) : Int) == n
theorem play_cases {m z : Rgs} (h : Rr m z) (what nm name : UInt8) (R : RgV) : ∃ (ci : UInt8) (L : List UInt8) (e : Int) (m' z' : Rgs), [34, 97, 98, 65, 66, 48, 57, 45, 95, 33].getD (nm.toNat % 10) 0 = ci ∧ L.length = 4 ∧ Rr m' z' ∧
    ((b15 nm = false ∧ b200 nm = false ∧ bW what 0 = true ∧ bW what 3 = false ∧ setR (upd 48) m ci R = (e, m') ∧ xSet (zSet 48) z ci R = (e, z') ∧ L = [ci, name, 0, 65]) ∨
      (b15 nm = false ∧ b200 nm = false ∧ bW what 0 = false ∧ bW what 3 = true ∧ putR m ci R = (e, m') ∧ xPut z ci R = (e, z') ∧ L = [ci, name, 0, 65]) ∨
      (b15 nm = false ∧ b200 nm = false ∧ bW what 0 = false ∧ bW what 3 = false ∧ setR cutR m ci R = (e, m') ∧ xSet zCut z ci R = (e, z') ∧ L = [ci, name, 0, 65]) ∨
      (b15 nm = false ∧ b200 nm = true ∧ bW what 0 = true ∧ bW what 3 = false ∧ setR (upd 48) m nm R = (e, m') ∧ xSet (zSet 48) z nm R = (e, z') ∧ L = [nm, name, 0, 65]) ∨
      (b15 nm = false ∧ b200 nm = true ∧ bW what 0 = false ∧ bW what 3 = true ∧ putR m nm R = (e, m') ∧ xPut z nm R = (e, z') ∧ L = [nm, name, 0, 65]) ∨
      (b15 nm = false ∧ b200 nm = true ∧ bW what 0 = false ∧ bW what 3 = false ∧ setR cutR m nm R = (e, m') ∧ xSet zCut z nm R = (e, z') ∧ L = [nm, name, 0, 65]) ∨
      (b15 nm = true ∧ b200 nm = false ∧ bW what 0 = true ∧ bW what 3 = false ∧ setR (upd 48) m 0 R = (e, m') ∧ xSet (zSet 48) z 0 R = (e, z') ∧ L = [0, name, 0, 65]) ∨
      (b15 nm = true ∧ b200 nm = false ∧ bW what 0 = false ∧ bW what 3 = true ∧ putR m 0 R = (e, m') ∧ xPut z 0 R = (e, z') ∧ L = [0, name, 0, 65]) ∨
      (b15 nm = true ∧ b200 nm = false ∧ bW what 0 = false ∧ bW what 3 = false ∧ setR cutR m 0 R = (e, m') ∧ xSet zCut z 0 R = (e, z') ∧ L = [0, name, 0, 65]) ∨
      (b15 nm = true ∧ b200 nm = true ∧ bW what 0 = true ∧ bW what 3 = false ∧ setR (upd 48) m 0 R = (e, m') ∧ xSet (zSet 48) z 0 R = (e, z') ∧ L = [0, name, 0, 65]) ∨
      (b15 nm = true ∧ b200 nm = true ∧ bW what 0 = false ∧ bW what 3 = true ∧ putR m 0 R = (e, m') ∧ xPut z 0 R = (e, z') ∧ L = [0, name, 0, 65]) ∨
      (b15 nm = true ∧ b200 nm = true ∧ bW what 0 = false ∧ bW what 3 = false ∧ setR cutR m 0 R = (e, m') ∧ xSet zCut z 0 R = (e, z') ∧ L = [0, name, 0, 65]))
    := by
  obtain ⟨ci, hci⟩ : ∃ ci : UInt8, [34, 97, 98, 65, 66, 48, 57, 45, 95, 33].getD (nm.toNat % 10) 0 = ci := ⟨_, rfl⟩
  obtain ⟨c, hc⟩ : ∃ c : UInt8, c = if b15 nm = true then 0 else if b200 nm = true then nm else ci := ⟨_, rfl⟩
  obtain ⟨h1, h2⟩ := act_both h (what.toNat % 4) c R
  refine ⟨ci, [c, name, 0, 65], (actM (what.toNat % 4) m c R).1, (actM (what.toNat % 4) m c R).2, (actZ (what.toNat % 4) z c R).2, hci, rfl, h2, ?_⟩
  have hm : actM (what.toNat % 4) m c R = ((actM (what.toNat % 4) m c R).1, (actM (what.toNat % 4) m c R).2) := rfl
  have hz : actZ (what.toNat % 4) z c R = ((actM (what.toNat % 4) m c R).1, (actZ (what.toNat % 4) z c R).2) := by rw [← h1]
  generalize (actM (what.toNat % 4) m c R).1 = e at *
  generalize (actM (what.toNat % 4) m c R).2 = m' at *
  generalize (actZ (what.toNat % 4) z c R).2 = z' at *
  have v0 : bW what 0 = decide (what.toNat % 4 = 0) := by rw [Bool.eq_iff_iff]; simp only [beq_iff_eq, decide_eq_true_eq]; omega
  have v3 : bW what 3 = decide (what.toNat % 4 = 3) := by rw [Bool.eq_iff_iff]; simp only [beq_iff_eq, decide_eq_true_eq]; omega
  have hw : (bW what 0 = true ∧ bW what 3 = false ∧ setR (upd 48) m c R = (e, m') ∧ xSet (zSet 48) z c R = (e, z')) ∨ (bW what 0 = false ∧ bW what 3 = true ∧ putR m c R = (e, m') ∧ xPut z c R = (e, z')) ∨ (bW what 0 = false ∧ bW what 3 = false ∧ setR cutR m c R = (e, m') ∧ xSet zCut z c R = (e, z')) := by
    unfold actM at hm
    unfold actZ at hz
    by_cases h0 : what.toNat % 4 = 0
    · rw [if_pos h0] at hm hz
      exact .inl ⟨by rw [v0, decide_eq_true h0], by rw [v3, decide_eq_false (by omega)], hm, hz⟩
    · rw [if_neg h0] at hm hz
      by_cases h3 : what.toNat % 4 = 3
      · rw [if_pos h3] at hm hz
        exact .inr (.inl ⟨by rw [v0, decide_eq_false h0], by rw [v3, decide_eq_true h3], hm, hz⟩)
      · rw [if_neg h3] at hm hz
        exact .inr (.inr ⟨by rw [v0, decide_eq_false h0], by rw [v3, decide_eq_false h3], hm, hz⟩)
  clear hm hz v0 v3 h1 h2
  cases g15 : b15 nm <;> cases g200 : b200 nm
  all_goals
    simp only [g15, g200, Bool.false_eq_true, if_true, if_false] at hc
    subst hc
    simp only [Bool.false_eq_true, Bool.true_eq_false, false_and, true_and, false_or, or_false, and_true]
    exact hw
end Go.Pg
