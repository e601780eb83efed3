/- The n-th beginning of a word, by the program. Where words begin, by the document. Where words end, by the document. -/
import Derived.Test.YtnnhelhadcfbcaaPgFx3
import Derived.Test.YtnnhelhadcfbcaaPgFx1
namespace Go.Pg
open Go Go.Proofs

def endPos (ls : Ls) : Int × Int := ((ls.length : Int) - 1, (ls.getD (ls.length - 1) []).length)
/-- The last of those that have been passed. -/
def lastOf (l : List (Int × Int)) (p : Int × Int) : Int × Int := l.getLastD p
def stopAt (ls : Ls) (p s last : Int × Int) (op : Bool) : Mv × Bool := if (op && decide (s.1 > last.1)) = true then wEnd ls p last.1 else mTo s 0
def wNext (ls : Ls) (p : Int × Int) (n : Int) (big op : Bool) : Mv × Bool :=
  if may ls p n = true then
    let l := behind (marksOf true true big ls) p false
    if n ≤ l.length then stopAt ls p (l.getD (n - 1).toNat (0, 0)) (lastOf (l.take (n - 1).toNat) p) op
    else if (op && n - l.length == 1) = true then wEnd ls p (ls.length - 1) else mNone
  else mNone

theorem behind_split (M : List (Int × Int)) (p : Int × Int) (here : Bool) (k : Nat) : behind M p here = behind (M.take k) p here ++ behind (M.drop k) p here := by
  unfold behind
  rw [← List.filter_append, List.take_append_drop]

theorem lastOf_line {ls : Ls} {M : List (Int × Int)} {p : Int × Int} {e : Bool} {g : List UInt8 → Nat → Bool} (hM : M = marksTo e g ls ls.length) (hp : place ls p.1 p.2 = true) (k : Nat) (here : Bool) : 0 ≤ (lastOf (behind (M.take k) p here) p).1 ∧ (lastOf (behind (M.take k) p here) p).1 < ls.length := by
  have hp' : 0 ≤ p.1 ∧ p.1 < ls.length := by
    unfold place at hp
    simp only [Bool.and_eq_true, decide_eq_true_eq] at hp
    omega
  unfold lastOf
  rcases List.eq_nil_or_concat (behind (M.take k) p here) with h | ⟨l, q, h⟩
  · rw [h]; exact hp'
  · rw [h, List.concat_eq_append, List.getLastD_concat]
    have hq : q ∈ M := by
      have : q ∈ behind (M.take k) p here := by rw [h]; simp
      exact List.mem_of_mem_take (List.mem_filter.1 this).1
    rw [hM] at hq
    obtain ⟨h1, h2, _⟩ := (marksTo_sorted e g ls ls.length).2 q hq
    exact ⟨h1, h2⟩

set_option maxRecDepth 20000 in
set_option maxHeartbeats 8000000 in
theorem calls_Next (ls : Ls) (p : Int × Int) (n : Int) (big op : Bool) (hf : fits 65536 65536 ls) (hn9 : n ≤ 9223372036854775807) : CallsR Try.prog 18 [.sl 1 (ls.map .str), aPos p, .int .i64 n, .bool big, .bool op] [] (aMove (wNext ls p n big op)) [] := by
  obtain ⟨p1, p2⟩ := p
  refine callsR_of (mrg := true) (dyn := []) (CtrOK.cons ok_fails (CtrOK.cons ok_StartsF (CtrOK.cons ok_at (CtrOK.cons ok_Less (CtrOK.cons ok_wEnd (CtrOK.nil _)))))) mixed Try.func18 rfl (by simp [Try.ntmps18]) (by kernel_rfl) ?_
  rw [show Try.f18.results.toList = [.cell 10 39, .cell 11 4] from by kernel_rfl]
  cases hm : may ls (p1, p2) n with
  | false =>
    rw [wNext, if_neg (by rw [hm]; simp)]
    simp (maxSteps := 4000000) only [↓wpA_H, ↓wpH_ret, ↓wpH_seq, ↓wpH_cond, ↓wpH_region, ↓iselH_true, bselH_false, runH_nil, runH_cons, gw, gselH_plain, cselH_bool, ↓chk, justK, noW, ↓oneK, ↓pureK, ↓heapK, envOf, ↓thenA_normal, ↓thenA_ret, ↓stepEv, opnd, Pg.look, Bool.not_false, Bool.false_eq_true, false_implies, implies_true, true_and, and_true, valV, heapV, footV, ofV, ofLeaf, retA, resK, tupA, subA, subQ, ptrsE, frzO, subF, subG, pickOf, frzE, frzC, frzL, frz0, frzH, Pg.freeze, List.foldl_nil, subOs, subEv, subV_succ, subM, subL, ldCells, objAt, ↓callT, callC, callV, callH, normArgs, normA, normC, resL, res8_eq, res_succ, resM, shiftR, shift1, AV.cells, TK.cells, AV.definite, AV.leaf, AV.leafy, putCells, lay, buildL, List.getElem?_cons_succ, List.getElem?_cons_zero, Option.getD_some, reduceCtorEq, Nat.reduceEqDiff, Nat.reduceAdd, List.nil_append, List.append_nil, List.cons_append, List.length_cons, List.length_nil, List.map_cons, List.map_nil, List.set_cons_zero, List.set_cons_succ, Nat.zero_add, ite_true, ite_false, Option.some.injEq, Option.isSome_some, AV.agg.injEq, Prod.mk.injEq, List.all_cons, List.all_nil, Bool.and_self, and_self, exists_eq_left', pickOK_nil, cInt_dec, cSl_dec, cAgg_dec, lOne_dec, lCons_dec, dec2_some, List.contains_nil, List.range'_zero, decL_str, C1by_ns, C1by_pre, C1by_r, C1by_H, optP_some, optV_some, optH_some, List.getD_cons_zero, cutL, List.drop_zero, List.drop_succ_cons, List.take_succ_cons, List.take_zero, Nat.sub_zero, Nat.le_refl, List.drop_nil, List.take_nil, Nat.zero_lt_succ, C1by_it, tk3, dz3, tk4, tz4, dz4, tk22, dz22, tk36, dz36, tk39, tz39, dz39, kFails, aPos, aMove, aMv, mNone, hm]
  | true =>
    have hmm := hm
    simp only [may, Bool.and_eq_true, decide_eq_true_eq] at hmm
    have hpp : 0 < ls.length := by
      have := hmm.1
      unfold place at this
      simp only [Bool.and_eq_true, decide_eq_true_eq] at this
      omega
    rw [wNext, if_pos hm]
    have hlast := fun (k : Nat) => lastOf_line (M := marksOf true true big ls) (p := (p1, p2)) (here := false) rfl hmm.1 k
    have hll := hf.1
    simp (maxSteps := 4000000) only [↓wpA_H, ↓wpH_skip, ↓wpH_seq, ↓wpH_cond, ↓wpH_block, ↓wpH_region, ↓iselH_false, bselH_false, runH_nil, runH_cons, gw, gselH_plain, cselH_bool, ↓chk, justK, noW, ↓oneK, ↓pureK, ↓heapK, envOf, ↓thenA_normal, ↓stepEv, opnd, Pg.look, Bool.not_true, Bool.false_eq_true, Bool.true_eq_false, false_implies, implies_true, true_and, and_true, valV, heapV, footV, Pg.freeze, List.foldl_nil, ldCells, objAt, ↓callT, callC, callV, callH, normArgs, normA, normC, resL, res8_eq, res_succ, resM, shiftR, shift1, AV.cells, TK.cells, AV.definite, AV.leaf, AV.leafy, putCells, lay, List.getElem?_cons_succ, List.getElem?_cons_zero, Option.getD_some, reduceCtorEq, Nat.reduceEqDiff, Nat.reduceAdd, List.nil_append, List.append_nil, List.cons_append, List.length_cons, List.length_nil, List.map_cons, List.map_nil, List.set_cons_zero, List.set_cons_succ, Nat.zero_add, ite_true, ite_false, Option.some.injEq, Prod.mk.injEq, List.all_cons, List.all_nil, Bool.and_self, and_self, exists_eq_left', cInt_dec, cBool_dec, cSl_dec, cAgg_dec, cRp_dec, lOne_dec, lCons_dec, dec2_some, List.contains_nil, List.range'_zero, decL_str, C1by_ns, C1by_pre, C1by_r, C1by_H, optP_some, optV_some, optH_some, List.getD_cons_zero, cutL, List.drop_zero, List.drop_succ_cons, List.take_succ_cons, List.take_zero, Nat.sub_zero, Nat.le_refl, List.drop_nil, List.take_nil, Nat.zero_lt_succ, ↓wpH_range, rangH_fn, rangR_some, iterC, C1by_it, C1itBy_it, C1itBy_pre, C1itBy_xs, optL_some, tk3, dz3, tz4, tk22, dz22, tk36, tz36, dz36, tz39, kFails, kStartsF, aAt, kAt, kLess, aPos, hm, cAskFn_decS]
    refine ⟨hf, ?_⟩
    generalize hM : marksOf true true big ls = M at hlast ⊢
    rw [mark_eq]
    refine rangG_intro M (fun p => [aPos p]) (0, 0) [(5, .ptr 0 1 1 0 0), (6, .ptr 1 2 1 0 0), (7, .ptr 2 1 1 0 0), (9, .ptr 3 1 1 0 0), (10, .ptr 4 5 1 0 0), (11, .ptr 5 1 1 0 0), (12, .ptr 6 2 1 0 0)]
      [.arr 22 1 [.sl 1 (ls.map .str)], .arr 36 2 [.agg [.int .i64 p1, .int .i64 p2]], .arr 3 1 [.int .i64 n], .arr 4 1 [.bool op], .arr 39 5 [.agg [.int .i64 0, .int .i64 0, .int .i64 0, .bool false, .int .i64 0]], .arr 4 1 [.bool false], .arr 36 2 [.agg [.int .i64 p1, .int .i64 p2]]]
      (fun k => ([(5, .ptr 0 1 1 0 0), (6, .ptr 1 2 1 0 0), (7, .ptr 2 1 1 0 0), (9, .ptr 3 1 1 0 0), (10, .ptr 4 5 1 0 0), (11, .ptr 5 1 1 0 0), (12, .ptr 6 2 1 0 0)], [.arr 22 1 [.sl 1 (ls.map .str)], .arr 36 2 [.agg [.int .i64 p1, .int .i64 p2]], .arr 3 1 [.int .i64 (n - (behind (M.take k) (p1, p2) false).length)], .arr 4 1 [.bool op], .arr 39 5 [.agg [.int .i64 0, .int .i64 0, .int .i64 0, .bool false, .int .i64 0]], .arr 4 1 [.bool false], .arr 36 2 [.agg [.int .i64 (lastOf (behind (M.take k) (p1, p2) false) (p1, p2)).1, .int .i64 (lastOf (behind (M.take k) (p1, p2) false) (p1, p2)).2]]]))
      (fun k => ((behind (M.take k) (p1, p2) false).length : Int) < n) rfl ?_ ?_ ?_ (fun _ => rfl) ?_ ?_
    · simp (maxSteps := 4000000) only [Pg.look, true_and, and_true, subA, subQ, ptrsE, pairsO, frzO, subF, subG, pickOf, assocN, pairsE, pairsC, pairsL, pairs0, frzE, frzC, frzL, frz0, frzH, Pg.freeze, List.foldl_nil, subOs, subO, subEv, subV_succ, subM, List.getElem?_cons_succ, List.getElem?_cons_zero, reduceCtorEq, Nat.reduceEqDiff, Nat.reduceAdd, List.nil_append, List.append_nil, List.cons_append, Nat.zero_add, ite_true, ite_false, and_self, Nat.lt_irrefl, Nat.not_lt_zero]
      exact ⟨by decide, subX_eq rfl rfl, subX_eq rfl rfl, subX_eq rfl rfl, subX_eq rfl rfl, subX_eq rfl rfl, subX_eq rfl rfl, subX_eq rfl rfl⟩
    · simp (maxSteps := 4000000) only [Pg.look, true_and, and_true, subA, subQ, ptrsE, pairsO, frzO, subF, subG, pickOf, assocN, pairsE, pairsC, pairsL, pairs0, frzE, frzC, frzL, frz0, frzH, Pg.freeze, List.foldl_nil, subOs, subO, subEv, subV_succ, subM, List.getElem?_cons_succ, List.getElem?_cons_zero, reduceCtorEq, Nat.reduceEqDiff, Nat.reduceAdd, Nat.reduceLT, List.nil_append, List.append_nil, List.cons_append, List.length_cons, List.length_nil, Nat.zero_add, ite_true, ite_false, and_self, List.take_zero, Nat.zero_lt_succ]
      exact ⟨by decide, subX_eq rfl rfl, subX_eq rfl rfl, subX_eq (by simp [behind]) rfl, subX_eq rfl rfl, subX_eq rfl rfl, subX_eq rfl rfl, subX_eq rfl rfl⟩
    · show ((behind [] (p1, p2) false).length : Int) < n
      simp only [behind, List.filter_nil, List.length_nil]
      omega
    · intro k hk hpk
      have hpk : ((behind (M.take k) (p1, p2) false).length : Int) < n := hpk
      have hsu := behind_succ M (p1, p2) false k hk
      have hib : isBehind (p1, p2) false (M.getD k (0, 0)) = less (p1, p2) ((M.getD k (0, 0)).1, (M.getD k (0, 0)).2) := by simp [isBehind]
      have hw : IntKind.i64.wrap (n - (behind (M.take k) (p1, p2) false).length - 1) = n - (behind (M.take k) (p1, p2) false).length - 1 := wrap64 (by omega) (by omega)
      obtain ⟨hl1, hl2⟩ := hlast k
      cases hb : isBehind (p1, p2) false (M.getD k (0, 0)) with
      | true =>
        rw [hib] at hb
        rw [hib, if_pos hb] at hsu
        by_cases hn : n - (behind (M.take k) (p1, p2) false).length - 1 > 0
        · have hct : decide (n - ((behind (M.take k) (p1, p2) false).length : Int) - 1 > 0) = true := decide_eq_true hn
          have hl' : lastOf (behind (M.take (k + 1)) (p1, p2) false) (p1, p2) = M.getD k (0, 0) := by rw [hsu]; unfold lastOf; simp
          simp (maxSteps := 4000000) only [↓wpA_H, ↓wpH_skip, ↓wpH_ret, ↓wpH_exit, ↓wpH_seq, ↓wpH_cond, ↓wpH_block, ↓wpH_region, ↓iselH_true, ↓iselH_false, iselH_if, bselH_false, runH_nil, runH_cons, gw, gselH_plain, gselH_if, kselH_1, cselH_bool, gkind, ↓chk, justK, noW, ↓oneK, ↓pureK, ↓heapK, ↓thenA_normal, ↓thenA_ret, ↓thenA_exit, ↓blockA_exit, ↓stepEv, opnd, Pg.look, binK, intOp, dstOf, Bool.not_true, Bool.false_eq_true, Bool.true_eq_false, false_implies, implies_true, imp_self, true_and, and_true, pickC, pickV, unc, gof, mux, mergeK, condsL, valV, heapV, footV, binV, intV, mergeable, look_stripE, ofV, ofLeaf, sameK, retA, resK, tupA, subA, subQ, ptrsE, pairsO, frzO, subF, subG, pickOf, assocN, pairsE, pairsC, pairsL, pairs0, frzE, frzC, frzL, frz0, frzH, Pg.freeze, List.foldl_nil, subOs, subO, subEv, subV_succ, subM, subL, slen, ldCells, objAt, ↓callT, callC, callV, callH, normArgs, normA, normC, resL, res8_eq, res_succ, resM, shiftR, shift1, AV.cells, TK.cells, AV.definite, AV.leaf, AV.leafy, putCells, lay, buildL, Op.operands, List.getElem?_toArray, List.getElem?_cons_succ, List.getElem?_cons_zero, Option.bind_some, Option.getD_some, reduceCtorEq, Nat.reduceEqDiff, Nat.reduceAdd, Nat.reduceLT, List.nil_append, List.append_nil, List.cons_append, List.length_cons, List.length_nil, List.map_cons, List.map_nil, List.set_cons_zero, List.set_cons_succ, Nat.zero_add, ite_true, ite_false, Option.some.injEq, Option.isSome_some, AV.int.injEq, AV.agg.injEq, Prod.mk.injEq, Bool.if_false_right, Bool.decide_eq_true, List.all_cons, List.all_nil, Bool.and_self, and_self, exists_eq_left', pickOK_nil, List.length_map, cInt_dec, List.toList_toArray, cSl_dec, cAgg_dec, lOne_dec, lCons_dec, dec2_some, List.contains_nil, List.range'_zero, decL_str, C1by_ns, C1by_pre, C1by_r, C1by_H, optP_some, optV_some, optH_some, List.getD_cons_zero, cutL, List.drop_zero, List.drop_succ_cons, List.take_succ_cons, List.take_zero, Nat.sub_zero, Nat.le_refl, List.drop_nil, List.take_nil, Nat.zero_lt_succ, C1by_it, C1itBy_it, C1itBy_pre, parE_cons, parE_nil, rqH_normal, rqH_exit, tk3, dz3, tk4, dz4, tk22, dz22, tk36, tz36, dz36, tk39, tz39, dz39, kLess, kWEnd, aPos, aMove, aMv, hb, hw, hct]
          exact ⟨by rw [hsu, List.length_append, List.length_singleton]; omega, by decide, subX_eq rfl rfl, subX_eq rfl rfl, subX_eq (by rw [hsu, List.length_append, List.length_singleton]; congr 2; omega) rfl, subX_eq rfl rfl, subX_eq rfl rfl, subX_eq rfl rfl, subX_eq (by rw [hl']) rfl⟩
        · have hct : decide (n - ((behind (M.take k) (p1, p2) false).length : Int) - 1 > 0) = false := decide_eq_false hn
          have hsp := behind_split M (p1, p2) false (k + 1)
          have hlen : (behind (M.take (k + 1)) (p1, p2) false).length = n := by rw [hsu, List.length_append, List.length_singleton]; omega
          have h1 : n ≤ ((behind M (p1, p2) false).length : Int) := by rw [hsp, List.length_append]; omega
          have h2 : (behind M (p1, p2) false).getD (n - 1).toNat (0, 0) = M.getD k (0, 0) := by
            rw [hsp, hsu, List.append_assoc, List.getD_eq_getElem?_getD, List.getElem?_append_right (by omega), show (n - 1).toNat - (behind (M.take k) (p1, p2) false).length = 0 by omega]
            rfl
          have h3 : (behind M (p1, p2) false).take (n - 1).toNat = behind (M.take k) (p1, p2) false := by
            rw [hsp, hsu, List.append_assoc, List.take_append_of_le_length (by omega), List.take_of_length_le (by omega)]
          rw [if_pos h1, h2, h3]
          cases hop : (op && decide ((M.getD k (0, 0)).1 > (lastOf (behind (M.take k) (p1, p2) false) (p1, p2)).1)) with
          | true =>
            rw [stopAt, if_pos hop]
            simp (maxSteps := 4000000) only [↓wpA_H, ↓wpH_skip, ↓wpH_ret, ↓wpH_seq, ↓wpH_cond, ↓wpH_block, ↓wpH_region, ↓iselH_true, ↓iselH_false, bselH_false, runH_nil, runH_cons, gw, gselH_plain, gselH_if, kselH_1, cselH_bool, gkind, ↓chk, justK, noW, ↓oneK, ↓pureK, ↓heapK, ↓thenA_normal, ↓thenA_ret, ↓blockA_ret, ↓stepEv, opnd, Pg.look, binK, intOp, dstOf, Bool.not_true, Bool.false_eq_true, Bool.true_eq_false, false_implies, implies_true, imp_self, true_and, and_true, pickC, pickV, unc, gof, mux, mergeK, condsL, valV, heapV, footV, binV, intV, mergeable, look_stripE, ofV, ofLeaf, sameK, retA, resK, tupA, subA, subQ, ptrsE, frzO, subF, subG, pickOf, frzE, frzC, frzL, frz0, frzH, Pg.freeze, List.foldl_nil, subOs, subEv, subV_succ, subM, subL, ldCells, objAt, ↓callT, callC, callV, callH, normArgs, normA, normC, resL, res8_eq, res_succ, resM, shiftR, shift1, AV.cells, TK.cells, AV.definite, AV.leaf, AV.leafy, putCells, lay, Op.operands, List.getElem?_toArray, List.getElem?_cons_succ, List.getElem?_cons_zero, Option.bind_some, Option.getD_some, reduceCtorEq, Nat.reduceEqDiff, Nat.reduceAdd, List.nil_append, List.append_nil, List.cons_append, List.length_cons, List.length_nil, List.map_cons, List.map_nil, List.set_cons_zero, List.set_cons_succ, Nat.zero_add, ite_true, ite_false, Option.some.injEq, Prod.mk.injEq, Bool.if_false_right, Bool.decide_eq_true, List.all_cons, List.all_nil, Bool.and_self, and_self, exists_eq_left', pickOK_nil, cInt_dec, List.toList_toArray, cSl_dec, cAgg_dec, lOne_dec, lCons_dec, dec2_some, List.contains_nil, List.range'_zero, decL_str, C1by_ns, C1by_pre, C1by_r, C1by_H, optP_some, optV_some, optH_some, List.getD_cons_zero, cutL, List.drop_zero, List.drop_succ_cons, List.take_succ_cons, List.take_zero, Nat.add_zero, Nat.sub_zero, Nat.le_refl, List.drop_nil, List.take_nil, Nat.zero_lt_succ, C1by_it, C1itBy_it, C1itBy_pre, parE_cons, parE_nil, rqH_ret, tk3, dz3, tk4, dz4, tk22, dz22, tk36, tz36, dz36, tk39, dz39, kWEnd, aPos, aMove, aMv, hb, hw, hct, hop]
            exact ⟨hl1, hl2⟩
          | false =>
            rw [stopAt, if_neg (by rw [hop]; simp)]
            simp (maxSteps := 4000000) only [↓wpA_H, ↓wpH_skip, ↓wpH_ret, ↓wpH_seq, ↓wpH_cond, ↓wpH_block, ↓wpH_region, ↓iselH_false, bselH_false, runH_nil, runH_cons, gw, gselH_plain, gselH_if, kselH_1, cselH_bool, gkind, ↓chk, justK, noW, ↓oneK, ↓pureK, ↓heapK, ↓thenA_normal, ↓thenA_ret, ↓blockA_ret, ↓stepEv, opnd, Pg.look, binK, intOp, dstOf, Bool.not_true, Bool.false_eq_true, Bool.true_eq_false, false_implies, implies_true, imp_self, true_and, and_true, pickC, pickV, unc, gof, mux, mergeK, condsL, valV, heapV, footV, binV, intV, mergeable, look_stripE, ofV, ofLeaf, sameK, retA, resK, tupA, subA, subQ, ptrsE, frzO, subF, subG, pickOf, frzE, frzC, frzL, frz0, frzH, Pg.freeze, List.foldl_nil, subOs, subEv, subV_succ, subM, subL, ldCells, objAt, ↓callT, callC, callV, callH, normArgs, normA, normC, resL, res8_eq, res_succ, resM, shiftR, shift1, AV.cells, TK.cells, AV.definite, AV.leaf, AV.leafy, putCells, lay, buildL, Op.operands, List.getElem?_toArray, List.getElem?_cons_succ, List.getElem?_cons_zero, Option.bind_some, Option.getD_some, Nat.reduceEqDiff, Nat.reduceAdd, List.nil_append, List.append_nil, List.cons_append, List.length_cons, List.length_nil, List.map_cons, List.map_nil, List.set_cons_zero, List.set_cons_succ, Nat.zero_add, ite_true, ite_false, Option.some.injEq, Option.isSome_some, AV.agg.injEq, Prod.mk.injEq, Bool.if_false_right, Bool.decide_eq_true, List.all_cons, List.all_nil, Bool.and_self, and_self, exists_eq_left', pickOK_nil, cInt_dec, List.toList_toArray, cAgg_dec, lOne_dec, lCons_dec, dec2_some, List.contains_nil, List.range'_zero, C1by_ns, C1by_pre, C1by_r, C1by_H, optP_some, optV_some, optH_some, List.getD_cons_zero, cutL, List.drop_zero, List.drop_succ_cons, List.take_succ_cons, List.take_zero, Nat.add_zero, Nat.sub_zero, Nat.reduceLeDiff, Nat.le_refl, List.drop_nil, List.take_nil, Nat.zero_lt_succ, C1by_it, C1itBy_it, C1itBy_pre, parE_cons, parE_nil, rqH_ret, tk3, dz3, tk4, dz4, tk36, tz36, dz36, tk39, tz39, dz39, kWEnd, aPos, aMove, aMv, mTo, hb, hw, hct, hop]
      | false =>
        rw [hib] at hb
        rw [hib, if_neg (by rw [hb]; simp)] at hsu
        simp (maxSteps := 4000000) only [↓wpA_H, ↓wpH_skip, ↓wpH_ret, ↓wpH_exit, ↓wpH_seq, ↓wpH_cond, ↓wpH_block, ↓wpH_region, ↓iselH_true, iselH_if, bselH_false, runH_nil, runH_cons, gw, gselH_plain, gselH_if, kselH_1, cselH_bool, gkind, ↓chk, justK, noW, ↓oneK, ↓pureK, ↓heapK, ↓thenA_normal, ↓thenA_ret, ↓thenA_exit, ↓blockA_exit, ↓stepEv, opnd, Pg.look, binK, intOp, dstOf, Bool.not_false, Bool.false_eq_true, Bool.true_eq_false, false_implies, implies_true, imp_self, true_and, and_true, pickC, pickV, unc, gof, mux, mergeK, condsL, valV, heapV, footV, binV, intV, mergeable, look_stripE, ofV, ofLeaf, sameK, retA, resK, tupA, subA, subQ, ptrsE, pairsO, frzO, subF, subG, pickOf, assocN, pairsE, pairsC, pairsL, pairs0, frzE, frzC, frzL, frz0, frzH, Pg.freeze, List.foldl_nil, subOs, subO, subEv, subV_succ, subM, subL, slen, ldCells, objAt, ↓callT, callC, callV, callH, normArgs, normA, normC, resL, res8_eq, res_succ, resM, shiftR, shift1, AV.cells, TK.cells, AV.definite, AV.leaf, AV.leafy, putCells, lay, buildL, Op.operands, List.getElem?_toArray, List.getElem?_cons_succ, List.getElem?_cons_zero, Option.bind_some, Option.getD_some, reduceCtorEq, Nat.reduceEqDiff, Nat.reduceAdd, Nat.reduceLT, List.nil_append, List.append_nil, List.cons_append, List.length_cons, List.length_nil, List.map_cons, List.map_nil, List.set_cons_zero, List.set_cons_succ, Nat.zero_add, ite_true, ite_false, Option.some.injEq, Option.isSome_some, AV.int.injEq, AV.agg.injEq, Prod.mk.injEq, Bool.if_false_right, Bool.decide_eq_true, List.all_cons, List.all_nil, Bool.and_self, and_self, exists_eq_left', pickOK_nil, List.length_map, cInt_dec, List.toList_toArray, cSl_dec, cAgg_dec, lOne_dec, lCons_dec, dec2_some, List.contains_nil, List.range'_zero, decL_str, C1by_ns, C1by_pre, C1by_r, C1by_H, optP_some, optV_some, optH_some, List.getD_cons_zero, cutL, List.drop_zero, List.drop_succ_cons, List.take_succ_cons, List.take_zero, Nat.sub_zero, Nat.le_refl, List.drop_nil, List.take_nil, Nat.zero_lt_succ, C1by_it, C1itBy_it, C1itBy_pre, parE_cons, parE_nil, rqH_normal, rqH_exit, tk3, dz3, tk4, dz4, tk22, dz22, tk36, tz36, dz36, tk39, tz39, dz39, kLess, kWEnd, aPos, aMove, aMv, hb]
        exact ⟨by rw [hsu]; exact hpk, by decide, subX_eq rfl rfl, subX_eq rfl rfl, subX_eq (by rw [hsu]) rfl, subX_eq rfl rfl, subX_eq rfl rfl, subX_eq rfl rfl, subX_eq (by rw [hsu]) rfl⟩
    · intro hpk
      have hpk : ((behind (M.take M.length) (p1, p2) false).length : Int) < n := hpk
      rw [List.take_of_length_le (Nat.le_refl M.length)] at hpk ⊢
      rw [if_neg (by omega)]
      cases hop : (op && n - ((behind M (p1, p2) false).length : Int) == 1) with
      | true =>
        have hw2 : IntKind.i64.wrap ((ls.length : Int) - 1) = (ls.length : Int) - 1 := wrap64 (by omega) (by omega)
        rw [if_pos rfl]
        simp (maxSteps := 4000000) only [↓wpA_H, ↓wpH_ret, ↓wpH_seq, ↓wpH_cond, ↓wpH_region, ↓iselH_true, bselH_false, runH_nil, runH_cons, gw, gselH_plain, gselH_if, kselH_1, cselH_bool, gkind, ↓chk, justK, noW, ↓oneK, ↓pureK, ↓heapK, ↓thenA_normal, ↓thenA_ret, ↓blockA_normal, ↓stepEv, opnd, Pg.look, binK, intOp, dstOf, Bool.false_eq_true, false_implies, implies_true, imp_self, true_and, and_true, pickC, pickV, unc, gof, mux, mergeK, condsL, valV, heapV, footV, binV, intV, mergeable, look_stripE, ofV, ofLeaf, sameK, retA, resK, tupA, subA, subQ, ptrsE, frzO, subF, subG, pickOf, frzE, frzC, frzL, frz0, frzH, Pg.freeze, List.foldl_nil, subOs, subEv, subV_succ, subM, subL, slen, ldCells, objAt, ↓callT, callC, callV, callH, normArgs, normA, normC, resL, res8_eq, res_succ, resM, shiftR, shift1, AV.cells, TK.cells, AV.leaf, AV.leafy, putCells, lay, Op.operands, List.getElem?_toArray, List.getElem?_cons_succ, List.getElem?_cons_zero, Option.bind_some, Option.getD_some, Nat.reduceEqDiff, Nat.reduceAdd, List.nil_append, List.append_nil, List.cons_append, List.length_cons, List.length_nil, List.map_cons, List.map_nil, List.set_cons_zero, List.set_cons_succ, Nat.zero_add, ite_true, ite_false, Option.some.injEq, AV.int.injEq, Prod.mk.injEq, Bool.if_false_right, Bool.decide_eq_true, List.all_cons, List.all_nil, Bool.and_self, and_self, exists_eq_left', pickOK_nil, List.length_map, cInt_dec, List.toList_toArray, cSl_dec, cAgg_dec, lOne_dec, lCons_dec, dec2_some, List.contains_nil, List.range'_zero, decL_str, C1by_ns, C1by_pre, C1by_r, C1by_H, optP_some, optV_some, optH_some, List.getD_cons_zero, cutL, List.drop_zero, List.drop_succ_cons, List.take_succ_cons, List.take_zero, Nat.sub_zero, Nat.le_refl, List.drop_nil, List.take_nil, Nat.zero_lt_succ, C1by_it, tk3, dz3, tk4, dz4, tk22, dz22, tk36, dz36, tk39, dz39, kLess, kWEnd, aMove, aMv, hop, hw2]
        exact ⟨by omega, by omega⟩
      | false =>
        rw [if_neg (by simp)]
        simp (maxSteps := 4000000) only [↓wpA_H, ↓wpH_skip, ↓wpH_ret, ↓wpH_seq, ↓wpH_cond, ↓wpH_region, ↓iselH_false, bselH_false, runH_nil, runH_cons, gw, gselH_plain, gselH_if, kselH_1, cselH_bool, gkind, ↓chk, justK, noW, ↓oneK, ↓pureK, ↓heapK, ↓thenA_normal, ↓blockA_normal, ↓stepEv, opnd, Pg.look, binK, intOp, dstOf, Bool.false_eq_true, implies_true, imp_self, true_and, and_true, pickC, pickV, unc, gof, mux, mergeK, condsL, valV, heapV, footV, binV, intV, mergeable, look_stripE, ofV, ofLeaf, sameK, retA, resK, tupA, subA, subQ, ptrsE, frzO, subF, subG, pickOf, frzE, frzC, frzL, frz0, frzH, Pg.freeze, List.foldl_nil, subOs, subEv, subV_succ, subM, subL, ldCells, objAt, res_succ, resM, AV.cells, TK.cells, AV.leaf, AV.leafy, putCells, lay, buildL, Op.operands, List.getElem?_toArray, List.getElem?_cons_succ, List.getElem?_cons_zero, Option.bind_some, Option.getD_some, Nat.reduceEqDiff, Nat.reduceAdd, List.nil_append, List.append_nil, List.length_cons, List.length_nil, List.map_nil, List.set_cons_zero, List.set_cons_succ, Nat.zero_add, ite_true, ite_false, Option.some.injEq, Option.isSome_some, AV.agg.injEq, Bool.if_false_right, Bool.decide_eq_true, List.all_cons, List.all_nil, Bool.and_self, and_self, exists_eq_left', pickOK_nil, List.toList_toArray, List.contains_nil, List.getD_cons_zero, cutL, List.drop_zero, List.drop_succ_cons, List.take_succ_cons, List.take_zero, Nat.sub_zero, Nat.le_refl, List.drop_nil, List.take_nil, Nat.zero_lt_succ, tk3, dz3, tk4, dz4, tk39, tz39, dz39, kLess, kWEnd, aMove, aMv, mNone, hop]
end Go.Pg
namespace Go.Pg
open Go Go.Proofs

set_option maxRecDepth 20000 in
set_option maxHeartbeats 4000000 in
theorem calls_RStarts (ls : Ls) (big : Bool) (hf : fits 65536 65536 ls) : CallsR Try.prog 13 [.sl 1 (ls.map .str), .bool big] [] (.sl 2 ((marksTo true (startB big) ls ls.length).map aPos)) [] := by
  refine callsR_of (mrg := true) (dyn := []) (CtrOK.cons ok_ROf (CtrOK.nil _)) mixed Try.func13 rfl (by simp [Try.ntmps13]) (by kernel_rfl) ?_
  rw [show Try.f13.results.toList = [.tmp 4] from by kernel_rfl]
  simp (maxSteps := 4000000) only [↓wpA_H, ↓wpH_seq, ↓wpH_block, ↓wpH_loop, ↓wpH_region, bselH_false, runH_nil, runH_cons, gw, gselH_plain, ↓chk, justK, ↓oneK, ↓pureK, envOf, ↓thenA_normal, ↓stepEv, opnd, Bool.false_eq_true, implies_true, true_and, valV, heapV, footV, ofV, ofLeaf, List.length_nil, Nat.zero_add, and_self, List.contains_nil, kOf]
  have hll := hf.1
  have hls := fits_getD hf
  refine loopH_intro (α := Nat × List (Int × Int)) (fun x => ([(0, .sl 1 (ls.map .str)), (1, .bool big), (4, .nls), (5, .own 0 2 x.2.length), (6, .int .i64 x.1)], [.arr 36 2 (x.2.map aPos)]))
    (fun x => x.1 ≤ ls.length ∧ x.2 = marksTo true (startB big) ls x.1) (fun x => ls.length - x.1) (0, []) ⟨by simp, by simp [marksTo]⟩ ?_ ?_
  · simp (maxSteps := 4000000) only [Pg.look, subA, subQ, ptrsE, pairsO, frzO, subF, subG, pickOf, assocN, pairsE, pairsC, pairs0, frzE, frzC, frz0, frzH, Pg.freeze, List.foldl_nil, subOs, subO, subEv, subV_succ, subM, List.getElem?_cons_zero, reduceCtorEq, Nat.reduceEqDiff, List.nil_append, List.append_nil, List.length_nil, List.map_nil, ite_true, ite_false, and_self, pickOK_one, Int.cast_ofNat_Int, Nat.lt_irrefl]
    all_goals rfl
  intro x hx
  obtain ⟨i, out⟩ := x
  simp only at hx
  obtain ⟨hx1, hx2⟩ := hx
  have hol := marksTo_len true (startB big) ls 65536 hls i
  rw [← hx2] at hol
  have hmul : i * (65536 + 1) ≤ 65536 * 65537 := Nat.mul_le_mul (by omega) (by omega)
  by_cases hi : i < ls.length
  · have hct : decide ((i : Int) < (ls.length : Int)) = true := decide_eq_true (by omega)
    have hsl := hls i
    have hts := marksTo_succ true (startB big) ls i
    rw [← hx2] at hts
    cases hse : (ls.getD i [] == []) with
    | true =>
      have hlm : lineMarks true (startB big) i (ls.getD i []) = [((i : Int), 0)] ++ marksIn (startB big) i (ls.getD i []) (ls.getD i []).length := by
        unfold lineMarks
        rw [hse]; rfl
      simp (maxSteps := 4000000) only [↓wpA_H, ↓wpH_skip, ↓wpH_seq, ↓wpH_cond, ↓wpH_block, ↓wpH_loop, ↓wpH_region, ↓iselH_true, bselH_false, runH_nil, runH_cons, gw, gselH_plain, cselH_bool, ↓chk, justK, noW, ↓oneK, ↓pureK, ↓heapK, ↓thenA_normal, ↓stepEv, opnd, Pg.look, binK, intOp, strOp, Bool.false_eq_true, implies_true, true_and, and_true, valV, heapV, footV, binV, intV, strV, ofV, ofLeaf, slen, srcV, srcE, appK, ldCells, objAt, AV.cells, TK.cells, AV.definite, AV.leaf, AV.leafy, lay, buildL, List.getElem?_cons_succ, List.getElem?_cons_zero, Option.getD_some, reduceCtorEq, Nat.reduceEqDiff, Nat.reduceAdd, List.nil_append, List.cons_append, List.length_cons, List.length_nil, List.map_cons, List.map_nil, List.set_cons_zero, Nat.zero_add, ite_true, ite_false, Option.some.injEq, Option.isSome_some, AV.int.injEq, AV.agg.injEq, List.all_cons, List.all_nil, Bool.and_self, and_self, exists_eq_left', List.length_map, rg1, List.contains_nil, beq_self_eq_true, Nat.reducePow, getD_str, Int.toNat_natCast, List.drop_zero, List.drop_succ_cons, List.take_zero, Nat.reduceLeDiff, Nat.one_mul, tk9, dz9, tk22, tk25, tk36, tz36, eb36, kOf, app1_pos2, hct, hse]
      refine ⟨by omega, ⟨by decide, by omega⟩, ?_⟩
      refine loopH_intro (α := Nat × List (Int × Int)) (fun x => ([(0, .sl 1 (ls.map .str)), (1, .bool big), (4, .nls), (5, .own 0 2 x.2.length), (6, .int .i64 i), (7, .str (ls.getD i [])), (8, .int .i64 x.1)], [.arr 36 2 (x.2.map aPos)]))
        (fun x => x.1 ≤ (ls.getD i []).length ∧ x.2 = out ++ [((i : Int), 0)] ++ marksIn (startB big) i (ls.getD i []) x.1) (fun x => (ls.getD i []).length - x.1) (0, out ++ [((i : Int), 0)]) ⟨by simp, by simp [marksIn]⟩ ?_ ?_
      · simp (maxSteps := 4000000) only [Pg.look, true_and, and_true, subA, subQ, ptrsE, pairsO, frzO, subF, subG, pickOf, assocN, pairsE, pairsC, pairs0, frzE, frzC, frz0, frzH, Pg.freeze, List.foldl_nil, subOs, subO, subEv, subV_succ, subM, List.getElem?_cons_zero, reduceCtorEq, Nat.reduceEqDiff, List.nil_append, List.append_nil, List.length_cons, List.length_nil, Nat.zero_add, ite_true, ite_false, and_self, pickOK_one, List.length_append, Int.cast_ofNat_Int, Nat.lt_irrefl]
        first | exact subX_eq rfl (pureB_posL _) | exact ⟨subX_eq rfl (pureB_posL _), by simp⟩ | exact ⟨rfl, subX_eq rfl (pureB_posL _)⟩
      intro y hy
      obtain ⟨k, out2⟩ := y
      simp only at hy
      obtain ⟨hy1, hy2⟩ := hy
      have hml := marksIn_len (startB big) i (ls.getD i []) k
      have hol2 : out2.length ≤ 4295032832 + 65540 := by
        rw [hy2, List.length_append, List.length_append]
        have : ([((i : Int), 0)] : List (Int × Int)).length ≤ 1 := by simp
        omega
      by_cases hk : k < (ls.getD i []).length
      · have hct2 : decide ((k : Int) < ((ls.getD i []).length : Int)) = true := decide_eq_true (by omega)
        have hm1 := marksIn_succ (startB big) i (ls.getD i []) k
        have hk1 : (IntKind.i64.wrap ((k : Int) - 1)) = (k : Int) - 1 := wrap64 (by omega) (by omega)
        have hk2 : ((k : Int) - 1).toNat = k - 1 := by omega
        have hk4 : IntKind.i64.wrap (((ls.getD i []).length : Int) - 1) = ((ls.getD i []).length : Int) - 1 := wrap64 (by omega) (by omega)
        have hk3 : (IntKind.i64.wrap ((k : Int) + 1)) = ((k + 1 : Nat) : Int) := by rw [wrap64 (by omega) (by omega)]; omega
        simp (maxSteps := 4000000) only [↓wpA_H, ↓wpH_skip, ↓wpH_seq, ↓wpH_cond, ↓wpH_block, ↓wpH_region, ↓iselH_true, iselH_if, bselH_false, runH_nil, runH_cons, gw, gselH_plain, gselH_if, kselH_0, kselH_1, cselH_bool, gkind, ↓chk, pickO, justK, noW, ↓oneK, ↓pureK, ↓heapK, ↓thenA_normal, ↓blockA_normal, ↓stepEv, opnd, Pg.look, binK, intOp, dstOf, Bool.false_eq_true, implies_true, imp_self, true_and, and_true, pickC, pickV, unc, gof, mux, mergeK, condsL, valV, heapV, footV, binV, intV, mergeable, look_stripE, ofV, ofLeaf, sameK, subA, subQ, ptrsE, pairsO, frzO, subF, subG, pickOf, assocN, pairsE, pairsC, pairs0, frzE, frzC, frz0, frzH, Pg.freeze, List.foldl_nil, subOs, subO, subEv, subV_succ, subM, srcV, srcE, appK, objAt, ↓callT, callC, callV, callH, normArgs, normA, resL, res8_eq, res_succ, resM, shiftR, shift1, AV.cells, AV.definite, AV.leaf, AV.leafy, lay, buildL, Op.operands, Call.operands, Array.toList_append, List.getElem?_toArray, List.getElem?_cons_succ, List.getElem?_cons_zero, Option.bind_some, Option.getD_some, reduceCtorEq, Nat.reduceEqDiff, Nat.reduceAdd, List.nil_append, List.append_nil, List.cons_append, List.length_cons, List.length_nil, List.map_cons, List.map_nil, List.set_cons_zero, Nat.zero_add, ite_true, ite_false, Option.some.injEq, Option.isSome_some, AV.agg.injEq, Bool.if_false_right, Bool.if_true_left, Bool.decide_eq_true, List.all_cons, List.all_nil, Bool.and_self, and_self, exists_eq_left', pickOK_one, List.length_map, cInt_dec, cBool_dec, List.toList_toArray, rg1, lOne_dec, lCons_dec, dec2_some, List.contains_nil, beq_self_eq_true, List.range'_zero, Nat.reducePow, C1by_ns, C1by_pre, C1by_r, C1by_H, optP_some, optV_some, optH_some, Int.toNat_natCast, List.drop_zero, List.drop_succ_cons, List.take_succ_cons, List.take_zero, Nat.reduceLeDiff, Nat.le_refl, Nat.lt_irrefl, Nat.one_mul, List.drop_nil, C1by_it, tk9, tk25, tk36, tz36, eb36, kOf, app1_pos2, hct2, hk1, hk2, hk3, Int.toNat_natCast]
        refine ⟨by omega, fun h => ?_, fun h => ⟨h, fun h2 => by rw [h, h2]; rfl⟩, fun h => ?_, fun h => ?_⟩
        · have h' := h
          simp only [Bool.and_eq_true, Bool.not_eq_true', beq_eq_false_iff_ne, ne_eq] at h'
          exact ⟨h, by omega, by omega⟩
        · rw [if_pos (show startB big (ls.getD i []) k = true from h)] at hm1
          exact ⟨⟨by decide, by omega⟩, (k + 1, out2 ++ [((i : Int), (k : Int))]), ⟨by show k + 1 ≤ _; omega, by simp only [hm1, hy2, List.append_assoc]⟩, by show _ - (k + 1) < _; omega, subX_eq rfl (pureB_posL _), by simp, rfl⟩
        · rw [if_neg (show ¬ startB big (ls.getD i []) k = true from by rw [Bool.not_eq_true]; exact h)] at hm1
          exact ⟨(k + 1, out2), ⟨by show k + 1 ≤ _; omega, by simp only [hm1, hy2, List.append_assoc]⟩, by show _ - (k + 1) < _; omega, subX_eq rfl (pureB_posL _), rfl, rfl⟩
      · have hcf2 : decide ((k : Int) < ((ls.getD i []).length : Int)) = false := decide_eq_false (by omega)
        have hke : k = (ls.getD i []).length := by omega
        simp (maxSteps := 4000000) only [↓wpA_H, ↓wpH_ret, ↓wpH_exit, ↓wpH_seq, ↓wpH_cond, ↓wpH_region, ↓iselH_false, bselH_false, runH_nil, runH_cons, gw, gselH_plain, cselH_bool, ↓chk, justK, ↓oneK, ↓pureK, ↓thenA_normal, ↓thenA_exit, ↓blockA_normal, ↓blockA_exit, ↓stepEv, opnd, Pg.look, binK, intOp, Bool.false_eq_true, implies_true, true_and, and_true, valV, heapV, footV, binV, intV, ofV, ofLeaf, retA, resK, tupA, subA, subQ, ptrsE, pairsO, frzO, subF, subG, pickOf, assocN, pairsE, pairsC, pairs0, frzE, frzC, frz0, frzH, Pg.freeze, List.foldl_nil, List.foldl_cons, subOs, subO, subEv, subV_succ, subM, objAt, res_succ, resM, frzAt, List.getElem?_cons_zero, reduceCtorEq, Nat.reduceEqDiff, List.nil_append, List.append_nil, List.length_nil, List.set_cons_zero, ite_true, ite_false, AV.sl.injEq, List.all_cons, List.all_nil, Bool.and_self, and_self, pickOK_nil, pickOK_one, List.length_map, resIn, List.contains_cons, List.contains_nil, Bool.or_false, beq_self_eq_true, Nat.lt_irrefl, tk9, kOf, pureB_posL, hcf2]
        refine ⟨(i + 1, out2), ⟨by show i + 1 ≤ _; omega, ?_⟩, by show _ - (i + 1) < _; omega, subX_eq rfl (pureB_posL _), rfl, by rw [wrap64 (by omega) (by omega)]; rfl⟩
        rw [hts, hy2, hke, hlm, List.append_assoc]
    | false =>
      have hlm : lineMarks true (startB big) i (ls.getD i []) = [] ++ marksIn (startB big) i (ls.getD i []) (ls.getD i []).length := by
        unfold lineMarks
        rw [hse]; rfl
      simp (maxSteps := 4000000) only [↓wpA_H, ↓wpH_skip, ↓wpH_seq, ↓wpH_cond, ↓wpH_block, ↓wpH_loop, ↓wpH_region, ↓iselH_true, ↓iselH_false, bselH_false, runH_nil, runH_cons, gw, gselH_plain, cselH_bool, ↓chk, justK, noW, ↓oneK, ↓pureK, ↓heapK, ↓thenA_normal, ↓stepEv, opnd, Pg.look, binK, intOp, strOp, Bool.false_eq_true, implies_true, true_and, and_true, valV, heapV, footV, binV, intV, strV, ofV, ofLeaf, slen, ldCells, AV.cells, TK.cells, List.getElem?_cons_zero, Option.getD_some, reduceCtorEq, Nat.reduceEqDiff, ite_true, ite_false, Option.some.injEq, AV.int.injEq, and_self, exists_eq_left', List.length_map, List.contains_nil, getD_str, Int.toNat_natCast, tk9, dz9, tk22, kOf, hct, hse]
      refine ⟨by omega, ?_⟩
      refine loopH_intro (α := Nat × List (Int × Int)) (fun x => ([(0, .sl 1 (ls.map .str)), (1, .bool big), (4, .nls), (5, .own 0 2 x.2.length), (6, .int .i64 i), (7, .str (ls.getD i [])), (8, .int .i64 x.1)], [.arr 36 2 (x.2.map aPos)]))
        (fun x => x.1 ≤ (ls.getD i []).length ∧ x.2 = out ++ [] ++ marksIn (startB big) i (ls.getD i []) x.1) (fun x => (ls.getD i []).length - x.1) (0, out ++ []) ⟨by simp, by simp [marksIn]⟩ ?_ ?_
      · simp (maxSteps := 4000000) only [Pg.look, true_and, and_true, subA, subQ, ptrsE, pairsO, frzO, subF, subG, pickOf, assocN, pairsE, pairsC, pairs0, frzE, frzC, frz0, frzH, Pg.freeze, List.foldl_nil, subOs, subO, subEv, subV_succ, subM, List.getElem?_cons_zero, reduceCtorEq, Nat.reduceEqDiff, List.nil_append, List.append_nil, ite_true, ite_false, and_self, pickOK_one, Int.cast_ofNat_Int, Nat.lt_irrefl]
        first | exact subX_eq rfl (pureB_posL _) | exact ⟨subX_eq rfl (pureB_posL _), by simp⟩ | exact ⟨rfl, subX_eq rfl (pureB_posL _)⟩
      intro y hy
      obtain ⟨k, out2⟩ := y
      simp only at hy
      obtain ⟨hy1, hy2⟩ := hy
      have hml := marksIn_len (startB big) i (ls.getD i []) k
      have hol2 : out2.length ≤ 4295032832 + 65540 := by
        rw [hy2, List.length_append, List.length_append]
        have : ([] : List (Int × Int)).length ≤ 1 := by simp
        omega
      by_cases hk : k < (ls.getD i []).length
      · have hct2 : decide ((k : Int) < ((ls.getD i []).length : Int)) = true := decide_eq_true (by omega)
        have hm1 := marksIn_succ (startB big) i (ls.getD i []) k
        have hk1 : (IntKind.i64.wrap ((k : Int) - 1)) = (k : Int) - 1 := wrap64 (by omega) (by omega)
        have hk2 : ((k : Int) - 1).toNat = k - 1 := by omega
        have hk4 : IntKind.i64.wrap (((ls.getD i []).length : Int) - 1) = ((ls.getD i []).length : Int) - 1 := wrap64 (by omega) (by omega)
        have hk3 : (IntKind.i64.wrap ((k : Int) + 1)) = ((k + 1 : Nat) : Int) := by rw [wrap64 (by omega) (by omega)]; omega
        simp (maxSteps := 4000000) only [↓wpA_H, ↓wpH_skip, ↓wpH_seq, ↓wpH_cond, ↓wpH_block, ↓wpH_region, ↓iselH_true, iselH_if, bselH_false, runH_nil, runH_cons, gw, gselH_plain, gselH_if, kselH_0, kselH_1, cselH_bool, gkind, ↓chk, pickO, justK, noW, ↓oneK, ↓pureK, ↓heapK, ↓thenA_normal, ↓blockA_normal, ↓stepEv, opnd, Pg.look, binK, intOp, dstOf, Bool.false_eq_true, implies_true, imp_self, true_and, and_true, pickC, pickV, unc, gof, mux, mergeK, condsL, valV, heapV, footV, binV, intV, mergeable, look_stripE, ofV, ofLeaf, sameK, subA, subQ, ptrsE, pairsO, frzO, subF, subG, pickOf, assocN, pairsE, pairsC, pairs0, frzE, frzC, frz0, frzH, Pg.freeze, List.foldl_nil, subOs, subO, subEv, subV_succ, subM, srcV, srcE, appK, objAt, ↓callT, callC, callV, callH, normArgs, normA, resL, res8_eq, res_succ, resM, shiftR, shift1, AV.cells, AV.definite, AV.leaf, AV.leafy, lay, buildL, Op.operands, Call.operands, Array.toList_append, List.getElem?_toArray, List.getElem?_cons_succ, List.getElem?_cons_zero, Option.bind_some, Option.getD_some, reduceCtorEq, Nat.reduceEqDiff, Nat.reduceAdd, List.nil_append, List.append_nil, List.cons_append, List.length_cons, List.length_nil, List.map_cons, List.map_nil, List.set_cons_zero, Nat.zero_add, ite_true, ite_false, Option.some.injEq, Option.isSome_some, AV.agg.injEq, Bool.if_false_right, Bool.if_true_left, Bool.decide_eq_true, List.all_cons, List.all_nil, Bool.and_self, and_self, exists_eq_left', pickOK_one, List.length_map, cInt_dec, cBool_dec, List.toList_toArray, rg1, lOne_dec, lCons_dec, dec2_some, List.contains_nil, beq_self_eq_true, List.range'_zero, Nat.reducePow, C1by_ns, C1by_pre, C1by_r, C1by_H, optP_some, optV_some, optH_some, Int.toNat_natCast, List.drop_zero, List.drop_succ_cons, List.take_succ_cons, List.take_zero, Nat.reduceLeDiff, Nat.le_refl, Nat.lt_irrefl, Nat.one_mul, List.drop_nil, C1by_it, tk9, tk25, tk36, tz36, eb36, kOf, app1_pos2, hct2, hk1, hk2, hk3, Int.toNat_natCast]
        refine ⟨by omega, fun h => ?_, fun h => ⟨h, fun h2 => by rw [h, h2]; rfl⟩, fun h => ?_, fun h => ?_⟩
        · have h' := h
          simp only [Bool.and_eq_true, Bool.not_eq_true', beq_eq_false_iff_ne, ne_eq] at h'
          exact ⟨h, by omega, by omega⟩
        · rw [if_pos (show startB big (ls.getD i []) k = true from h)] at hm1
          exact ⟨⟨by decide, by omega⟩, (k + 1, out2 ++ [((i : Int), (k : Int))]), ⟨by show k + 1 ≤ _; omega, by simp only [hm1, hy2, List.append_assoc, List.append_nil]⟩, by show _ - (k + 1) < _; omega, subX_eq rfl (pureB_posL _), by simp, rfl⟩
        · rw [if_neg (show ¬ startB big (ls.getD i []) k = true from by rw [Bool.not_eq_true]; exact h)] at hm1
          exact ⟨(k + 1, out2), ⟨by show k + 1 ≤ _; omega, by simp only [hm1, hy2, List.append_nil]⟩, by show _ - (k + 1) < _; omega, subX_eq rfl (pureB_posL _), rfl, rfl⟩
      · have hcf2 : decide ((k : Int) < ((ls.getD i []).length : Int)) = false := decide_eq_false (by omega)
        have hke : k = (ls.getD i []).length := by omega
        simp (maxSteps := 4000000) only [↓wpA_H, ↓wpH_ret, ↓wpH_exit, ↓wpH_seq, ↓wpH_cond, ↓wpH_region, ↓iselH_false, bselH_false, runH_nil, runH_cons, gw, gselH_plain, cselH_bool, ↓chk, justK, ↓oneK, ↓pureK, ↓thenA_normal, ↓thenA_exit, ↓blockA_normal, ↓blockA_exit, ↓stepEv, opnd, Pg.look, binK, intOp, Bool.false_eq_true, implies_true, true_and, and_true, valV, heapV, footV, binV, intV, ofV, ofLeaf, retA, resK, tupA, subA, subQ, ptrsE, pairsO, frzO, subF, subG, pickOf, assocN, pairsE, pairsC, pairs0, frzE, frzC, frz0, frzH, Pg.freeze, List.foldl_nil, List.foldl_cons, subOs, subO, subEv, subV_succ, subM, objAt, res_succ, resM, frzAt, List.getElem?_cons_zero, reduceCtorEq, Nat.reduceEqDiff, List.nil_append, List.append_nil, List.length_nil, List.set_cons_zero, ite_true, ite_false, AV.sl.injEq, List.all_cons, List.all_nil, Bool.and_self, and_self, pickOK_nil, pickOK_one, List.length_map, resIn, List.contains_cons, List.contains_nil, Bool.or_false, beq_self_eq_true, Nat.lt_irrefl, tk9, kOf, pureB_posL, hcf2]
        refine ⟨(i + 1, out2), ⟨by show i + 1 ≤ _; omega, ?_⟩, by show _ - (i + 1) < _; omega, subX_eq rfl (pureB_posL _), rfl, by rw [wrap64 (by omega) (by omega)]; rfl⟩
        rw [hts, hy2, hke, hlm, List.append_assoc]
  · have hcf : decide ((i : Int) < (ls.length : Int)) = false := decide_eq_false (by omega)
    have hil : i = ls.length := by omega
    simp (maxSteps := 4000000) only [↓wpA_H, ↓wpH_ret, ↓wpH_exit, ↓wpH_seq, ↓wpH_cond, ↓wpH_region, ↓iselH_false, bselH_false, runH_nil, runH_cons, gw, gselH_plain, cselH_bool, ↓chk, justK, ↓oneK, ↓pureK, ↓thenA_normal, ↓thenA_exit, ↓blockA_exit, ↓stepEv, opnd, Pg.look, binK, intOp, Bool.false_eq_true, implies_true, true_and, and_true, valV, heapV, footV, binV, intV, retA, resK, tupA, subA, subQ, ptrsE, frzO, subF, subG, pickOf, frzE, frzC, frz0, frzH, Pg.freeze, List.foldl_nil, List.foldl_cons, subOs, subEv, subV_succ, subM, slen, objAt, res_succ, resM, frzAt, List.getElem?_cons_zero, Option.getD_some, reduceCtorEq, Nat.reduceEqDiff, List.append_nil, List.length_nil, List.set_cons_zero, ite_true, ite_false, Option.some.injEq, AV.int.injEq, AV.sl.injEq, List.all_cons, List.all_nil, Bool.and_self, and_self, exists_eq_left', pickOK_nil, List.length_map, resIn, List.contains_cons, List.contains_nil, Bool.or_false, beq_self_eq_true, tk22, kOf, pureB_posL, hcf]
    rw [hx2, hil]
end Go.Pg
namespace Go.Pg
open Go Go.Proofs

set_option maxRecDepth 20000 in
set_option maxHeartbeats 4000000 in
theorem calls_REnds (ls : Ls) (big : Bool) (hf : fits 65536 65536 ls) : CallsR Try.prog 14 [.sl 1 (ls.map .str), .bool big] [] (.sl 2 ((marksTo false (endB big) ls ls.length).map aPos)) [] := by
  refine callsR_of (mrg := true) (dyn := []) (CtrOK.cons ok_ROf (CtrOK.nil _)) mixed Try.func14 rfl (by simp [Try.ntmps14]) (by kernel_rfl) ?_
  rw [show Try.f14.results.toList = [.tmp 4] from by kernel_rfl]
  simp (maxSteps := 4000000) only [↓wpA_H, ↓wpH_seq, ↓wpH_block, ↓wpH_loop, ↓wpH_region, bselH_false, runH_nil, runH_cons, gw, gselH_plain, ↓chk, justK, ↓oneK, ↓pureK, envOf, ↓thenA_normal, ↓stepEv, opnd, Bool.false_eq_true, implies_true, true_and, valV, heapV, footV, ofV, ofLeaf, List.length_nil, Nat.zero_add, and_self, List.contains_nil, kOf]
  have hll := hf.1
  have hls := fits_getD hf
  refine loopH_intro (α := Nat × List (Int × Int)) (fun x => ([(0, .sl 1 (ls.map .str)), (1, .bool big), (4, .nls), (5, .own 0 2 x.2.length), (6, .int .i64 x.1)], [.arr 36 2 (x.2.map aPos)]))
    (fun x => x.1 ≤ ls.length ∧ x.2 = marksTo false (endB big) ls x.1) (fun x => ls.length - x.1) (0, []) ⟨by simp, by simp [marksTo]⟩ ?_ ?_
  · simp (maxSteps := 4000000) only [Pg.look, subA, subQ, ptrsE, pairsO, frzO, subF, subG, pickOf, assocN, pairsE, pairsC, pairs0, frzE, frzC, frz0, frzH, Pg.freeze, List.foldl_nil, subOs, subO, subEv, subV_succ, subM, List.getElem?_cons_zero, reduceCtorEq, Nat.reduceEqDiff, List.nil_append, List.append_nil, List.length_nil, List.map_nil, ite_true, ite_false, and_self, pickOK_one, Int.cast_ofNat_Int, Nat.lt_irrefl]
    all_goals rfl
  intro x hx
  obtain ⟨i, out⟩ := x
  simp only at hx
  obtain ⟨hx1, hx2⟩ := hx
  have hol := marksTo_len false (endB big) ls 65536 hls i
  rw [← hx2] at hol
  have hmul : i * (65536 + 1) ≤ 65536 * 65537 := Nat.mul_le_mul (by omega) (by omega)
  by_cases hi : i < ls.length
  · have hct : decide ((i : Int) < (ls.length : Int)) = true := decide_eq_true (by omega)
    have hsl := hls i
    have hts := marksTo_succ false (endB big) ls i
    rw [← hx2] at hts
    have hlm : lineMarks false (endB big) i (ls.getD i []) = [] ++ marksIn (endB big) i (ls.getD i []) (ls.getD i []).length := by
      unfold lineMarks
      rfl
    simp (maxSteps := 4000000) only [↓wpA_H, ↓wpH_skip, ↓wpH_seq, ↓wpH_cond, ↓wpH_block, ↓wpH_loop, ↓wpH_region, ↓iselH_true, bselH_false, runH_nil, runH_cons, gw, gselH_plain, cselH_bool, ↓chk, justK, noW, ↓oneK, ↓pureK, ↓heapK, ↓thenA_normal, ↓stepEv, opnd, Pg.look, binK, intOp, Bool.false_eq_true, implies_true, true_and, and_true, valV, heapV, footV, binV, intV, ofV, ofLeaf, slen, ldCells, AV.cells, TK.cells, List.getElem?_cons_zero, Option.getD_some, reduceCtorEq, Nat.reduceEqDiff, ite_true, ite_false, Option.some.injEq, AV.int.injEq, and_self, exists_eq_left', List.length_map, List.contains_nil, getD_str, Int.toNat_natCast, tk9, dz9, tk22, kOf, hct]
    refine ⟨by omega, ?_⟩
    refine loopH_intro (α := Nat × List (Int × Int)) (fun x => ([(0, .sl 1 (ls.map .str)), (1, .bool big), (4, .nls), (5, .own 0 2 x.2.length), (6, .int .i64 i), (7, .str (ls.getD i [])), (8, .int .i64 x.1)], [.arr 36 2 (x.2.map aPos)]))
      (fun x => x.1 ≤ (ls.getD i []).length ∧ x.2 = out ++ [] ++ marksIn (endB big) i (ls.getD i []) x.1) (fun x => (ls.getD i []).length - x.1) (0, out ++ []) ⟨by simp, by simp [marksIn]⟩ ?_ ?_
    · simp (maxSteps := 4000000) only [Pg.look, true_and, and_true, subA, subQ, ptrsE, pairsO, frzO, subF, subG, pickOf, assocN, pairsE, pairsC, pairs0, frzE, frzC, frz0, frzH, Pg.freeze, List.foldl_nil, subOs, subO, subEv, subV_succ, subM, List.getElem?_cons_zero, reduceCtorEq, Nat.reduceEqDiff, List.nil_append, List.append_nil, ite_true, ite_false, and_self, pickOK_one, Int.cast_ofNat_Int, Nat.lt_irrefl]
      first | exact subX_eq rfl (pureB_posL _) | exact ⟨subX_eq rfl (pureB_posL _), by simp⟩ | exact ⟨rfl, subX_eq rfl (pureB_posL _)⟩
    intro y hy
    obtain ⟨k, out2⟩ := y
    simp only at hy
    obtain ⟨hy1, hy2⟩ := hy
    have hml := marksIn_len (endB big) i (ls.getD i []) k
    have hol2 : out2.length ≤ 4295032832 + 65540 := by
      rw [hy2, List.length_append, List.length_append]
      have : ([] : List (Int × Int)).length ≤ 1 := by simp
      omega
    by_cases hk : k < (ls.getD i []).length
    · have hct2 : decide ((k : Int) < ((ls.getD i []).length : Int)) = true := decide_eq_true (by omega)
      have hm1 := marksIn_succ (endB big) i (ls.getD i []) k
      have hk1 : (IntKind.i64.wrap ((k : Int) - 1)) = (k : Int) - 1 := wrap64 (by omega) (by omega)
      have hk2 : ((k : Int) - 1).toNat = k - 1 := by omega
      have hk4 : IntKind.i64.wrap (((ls.getD i []).length : Int) - 1) = ((ls.getD i []).length : Int) - 1 := wrap64 (by omega) (by omega)
      have hk3 : (IntKind.i64.wrap ((k : Int) + 1)) = ((k + 1 : Nat) : Int) := by rw [wrap64 (by omega) (by omega)]; omega
      simp (maxSteps := 4000000) only [↓wpA_H, ↓wpH_skip, ↓wpH_seq, ↓wpH_cond, ↓wpH_block, ↓wpH_region, ↓iselH_true, iselH_if, bselH_false, runH_nil, runH_cons, gw, gselH_plain, gselH_if, kselH_0, kselH_1, cselH_bool, gkind, ↓chk, pickO, justK, noW, ↓oneK, ↓pureK, ↓heapK, ↓thenA_normal, ↓blockA_normal, ↓stepEv, opnd, Pg.look, binK, intOp, dstOf, Bool.false_eq_true, implies_true, imp_self, true_and, and_true, pickC, pickV, unc, gof, mux, mergeK, condsL, valV, heapV, footV, binV, intV, mergeable, look_stripE, ofV, ofLeaf, sameK, subA, subQ, ptrsE, pairsO, frzO, subF, subG, pickOf, assocN, pairsE, pairsC, pairs0, frzE, frzC, frz0, frzH, Pg.freeze, List.foldl_nil, subOs, subO, subEv, subV_succ, subM, srcV, srcE, appK, objAt, ↓callT, callC, callV, callH, normArgs, normA, resL, res8_eq, res_succ, resM, shiftR, shift1, AV.cells, AV.definite, AV.leaf, AV.leafy, lay, buildL, Op.operands, Call.operands, Array.toList_append, List.getElem?_toArray, List.getElem?_cons_succ, List.getElem?_cons_zero, Option.bind_some, Option.getD_some, reduceCtorEq, Nat.reduceEqDiff, Nat.reduceAdd, List.nil_append, List.append_nil, List.cons_append, List.length_cons, List.length_nil, List.map_cons, List.map_nil, List.set_cons_zero, Nat.zero_add, ite_true, ite_false, Option.some.injEq, Option.isSome_some, AV.agg.injEq, Bool.if_false_right, Bool.if_true_left, Bool.decide_eq_true, List.all_cons, List.all_nil, Bool.and_self, and_self, exists_eq_left', pickOK_one, List.length_map, cInt_dec, cBool_dec, List.toList_toArray, rg1, lOne_dec, lCons_dec, dec2_some, List.contains_nil, beq_self_eq_true, List.range'_zero, Nat.reducePow, C1by_ns, C1by_pre, C1by_r, C1by_H, optP_some, optV_some, optH_some, Int.toNat_natCast, List.drop_zero, List.drop_succ_cons, List.take_succ_cons, List.take_zero, Nat.reduceLeDiff, Nat.le_refl, Nat.lt_irrefl, Nat.one_mul, List.drop_nil, C1by_it, tk9, tk25, tk36, tz36, eb36, kOf, app1_pos2, hct2, hk3, hk4, Int.toNat_natCast]
      refine ⟨by omega, fun h => ?_, fun h => ⟨h, fun h2 => by rw [h, h2]; rfl⟩, fun h => ?_, fun h => ?_⟩
      · have h' := h
        simp only [Bool.and_eq_true, Bool.not_eq_true', beq_eq_false_iff_ne, ne_eq] at h'
        exact ⟨h, by omega, by omega⟩
      · rw [if_pos (show endB big (ls.getD i []) k = true from h)] at hm1
        exact ⟨⟨by decide, by omega⟩, (k + 1, out2 ++ [((i : Int), (k : Int))]), ⟨by show k + 1 ≤ _; omega, by simp only [hm1, hy2, List.append_assoc, List.append_nil]⟩, by show _ - (k + 1) < _; omega, subX_eq rfl (pureB_posL _), by simp, rfl⟩
      · rw [if_neg (show ¬ endB big (ls.getD i []) k = true from by rw [Bool.not_eq_true]; exact h)] at hm1
        exact ⟨(k + 1, out2), ⟨by show k + 1 ≤ _; omega, by simp only [hm1, hy2, List.append_nil]⟩, by show _ - (k + 1) < _; omega, subX_eq rfl (pureB_posL _), rfl, rfl⟩
    · have hcf2 : decide ((k : Int) < ((ls.getD i []).length : Int)) = false := decide_eq_false (by omega)
      have hke : k = (ls.getD i []).length := by omega
      simp (maxSteps := 4000000) only [↓wpA_H, ↓wpH_ret, ↓wpH_exit, ↓wpH_seq, ↓wpH_cond, ↓wpH_region, ↓iselH_false, bselH_false, runH_nil, runH_cons, gw, gselH_plain, cselH_bool, ↓chk, justK, ↓oneK, ↓pureK, ↓thenA_normal, ↓thenA_exit, ↓blockA_normal, ↓blockA_exit, ↓stepEv, opnd, Pg.look, binK, intOp, Bool.false_eq_true, implies_true, true_and, and_true, valV, heapV, footV, binV, intV, ofV, ofLeaf, retA, resK, tupA, subA, subQ, ptrsE, pairsO, frzO, subF, subG, pickOf, assocN, pairsE, pairsC, pairs0, frzE, frzC, frz0, frzH, Pg.freeze, List.foldl_nil, List.foldl_cons, subOs, subO, subEv, subV_succ, subM, objAt, res_succ, resM, frzAt, List.getElem?_cons_zero, reduceCtorEq, Nat.reduceEqDiff, List.nil_append, List.append_nil, List.length_nil, List.set_cons_zero, ite_true, ite_false, AV.sl.injEq, List.all_cons, List.all_nil, Bool.and_self, and_self, pickOK_nil, pickOK_one, List.length_map, resIn, List.contains_cons, List.contains_nil, Bool.or_false, beq_self_eq_true, Nat.lt_irrefl, tk9, kOf, pureB_posL, hcf2]
      refine ⟨(i + 1, out2), ⟨by show i + 1 ≤ _; omega, ?_⟩, by show _ - (i + 1) < _; omega, subX_eq rfl (pureB_posL _), rfl, by rw [wrap64 (by omega) (by omega)]; rfl⟩
      rw [hts, hy2, hke, hlm, List.append_assoc]
  · have hcf : decide ((i : Int) < (ls.length : Int)) = false := decide_eq_false (by omega)
    have hil : i = ls.length := by omega
    simp (maxSteps := 4000000) only [↓wpA_H, ↓wpH_ret, ↓wpH_exit, ↓wpH_seq, ↓wpH_cond, ↓wpH_region, ↓iselH_false, bselH_false, runH_nil, runH_cons, gw, gselH_plain, cselH_bool, ↓chk, justK, ↓oneK, ↓pureK, ↓thenA_normal, ↓thenA_exit, ↓blockA_exit, ↓stepEv, opnd, Pg.look, binK, intOp, Bool.false_eq_true, implies_true, true_and, and_true, valV, heapV, footV, binV, intV, retA, resK, tupA, subA, subQ, ptrsE, frzO, subF, subG, pickOf, frzE, frzC, frz0, frzH, Pg.freeze, List.foldl_nil, List.foldl_cons, subOs, subEv, subV_succ, subM, slen, objAt, res_succ, resM, frzAt, List.getElem?_cons_zero, Option.getD_some, reduceCtorEq, Nat.reduceEqDiff, List.append_nil, List.length_nil, List.set_cons_zero, ite_true, ite_false, Option.some.injEq, AV.int.injEq, AV.sl.injEq, List.all_cons, List.all_nil, Bool.and_self, and_self, exists_eq_left', pickOK_nil, List.length_map, resIn, List.contains_cons, List.contains_nil, Bool.or_false, beq_self_eq_true, tk22, kOf, pureB_posL, hcf]
    rw [hx2, hil]
end Go.Pg
