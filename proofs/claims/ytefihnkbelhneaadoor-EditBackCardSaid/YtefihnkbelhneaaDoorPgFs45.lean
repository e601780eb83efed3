/- A byte over others. -/
import Derived.Test.YtefihnkbelhneaaDoorPgFs42
namespace Go.Pg
open Go Go.Proofs

theorem over_set (s : List UInt8) (p i : Nat) (c : UInt8) (h : p + i < s.length) : (s.take p ++ List.replicate i c ++ s.drop (p + i)).set (p + i) c = s.take p ++ List.replicate (i + 1) c ++ s.drop (p + i + 1) := by
  have hlen : (s.take p ++ List.replicate i c).length = p + i := by simp; omega
  rw [List.set_append_right _ _ (by omega), hlen, Nat.sub_self, List.drop_eq_getElem_cons h, List.set_cons_zero, List.replicate_succ']
  simp
theorem fill_set (n i : Nat) (c : UInt8) (h : i < n) : (List.replicate i c ++ List.replicate (n - i) 0).set i c = List.replicate (i + 1) c ++ List.replicate (n - (i + 1)) 0 := by
  have hlen : (List.replicate i c).length = i := by simp
  rw [List.set_append_right _ _ (by omega), hlen, Nat.sub_self, show n - i = (n - (i + 1)) + 1 by omega, List.replicate_succ (n := n - (i + 1)), List.set_cons_zero, List.replicate_succ' (n := i)]
  simp
theorem ofBytes_rep (n : Nat) : List.replicate n (AV.int .u8 0) = ofBytes (List.replicate n 0) := by simp [ofBytes]

def over (ls : Ls) (p : Int × Int) (c : UInt8) (n : Int) : Ch × Bool :=
  if (!place ls p.1 p.2 || decide (n < 1) || decide (n > (ls.getD p.1.toNat []).length - p.2)) = true then ((0, [], []), false)
  else ((p.1, cutL ls p.1.toNat (p.1 + 1).toNat, [(ls.getD p.1.toNat []).take p.2.toNat ++ List.replicate n.toNat c ++ (ls.getD p.1.toNat []).drop (p.2 + n).toNat]), true)

set_option maxRecDepth 20000 in
set_option maxHeartbeats 4000000 in
theorem calls_Over (ls : Ls) (p : Int × Int) (c : UInt8) (n : Int) (hs : small ls) :
    CallsR Tryd.prog 16 [.sl 1 (ls.map .str), aPos p, .int .u8 c.toNat, .int .i64 n] [] (.tuple [aCh (over ls p c n).1, .bool (over ls p c n).2]) [] := by
  obtain ⟨p1, p2⟩ := p
  refine callsR_of (mrg := true) (dyn := []) (CtrOK.cons ok_Place (CtrOK.cons ok_changed (CtrOK.nil _))) mixed Tryd.func16 rfl (by simp [Tryd.ntmps16]) (by kernel_rfl) ?_
  rw [show Tryd.f16.results.toList = [.cell 8 31, .tmp 9] from by kernel_rfl]
  cases hp : place ls p1 p2 with
  | false =>
    simp (maxSteps := 4000000) only [↓wpA_H, ↓wpH_ret, ↓wpH_seq, ↓wpH_cond, ↓wpH_region, ↓iselH_true, bselH_false, runH_nil, runH_cons, gw, gselH_plain, gselH_if, kselH_1, cselH_bool, gkind, ↓chk, justK, noW, ↓oneK, ↓pureK, ↓heapK, envOf, ↓thenA_normal, ↓thenA_ret, ↓stepEv, opnd, Pg.look, binK, intOp, dstOf, Bool.not_false, Bool.not_true, Bool.false_eq_true, Bool.true_eq_false, false_implies, implies_true, imp_self, true_and, and_true, pickC, pickV, unc, gof, mux, mergeK, condsL, valV, heapV, footV, binV, intV, mergeable, look_stripE, ofV, ofLeaf, sameK, retA, resK, tupA, subA, subQ, ptrsE, frzO, subF, subG, pickOf, frzE, frzC, frzL, frz0, frzH, Pg.freeze, List.foldl_nil, subOs, subEv, subV_succ, subM, subL, ldCells, objAt, ↓callT, callC, callV, callH, normArgs, normA, normC, resL, res8_eq, res_succ, resM, shiftR, shift1, AV.cells, TK.cells, AV.definite, AV.leaf, AV.leafy, putCells, lay, buildL, Op.operands, Call.operands, Array.toList_append, List.getElem?_toArray, List.getElem?_cons_succ, List.getElem?_cons_zero, Option.bind_some, Option.getD_some, reduceCtorEq, Nat.reduceEqDiff, Nat.reduceAdd, List.nil_append, List.append_nil, List.cons_append, List.length_cons, List.length_nil, List.map_cons, List.map_nil, List.set_cons_zero, List.set_cons_succ, Nat.zero_add, ite_true, ite_false, Option.some.injEq, Option.isSome_some, AV.agg.injEq, Prod.mk.injEq, List.all_cons, List.all_nil, Bool.and_self, and_self, exists_eq_left', pickOK_nil, List.length_map, cInt_dec, List.toList_toArray, cSl_dec, cAgg_dec, lOne_dec, lCons_dec, dec2_some, List.contains_nil, Bool.true_or, List.range'_zero, decL_str, C1by_ns, C1by_pre, C1by_r, C1by_H, optP_some, optV_some, optH_some, getD_str, List.getD_cons_zero, cutL, List.drop_zero, List.drop_succ_cons, List.take_succ_cons, List.take_zero, Nat.add_zero, Nat.sub_zero, Nat.le_refl, List.drop_nil, List.take_nil, Nat.zero_lt_succ, tk3, tk9, dz9, tk22, tk24, dz24, tk31, tz31, dz31, kPlace, kChanged, aCh, aPos, hp, over]
  | true =>
    have hp2 := hp
    rw [place_iff] at hp2
    have hl := hs.2 p1.toNat
    have hl1 := hs.1
    have w1 : IntKind.i64.wrap (((ls.getD p1.toNat []).length : Int) - p2) = (ls.getD p1.toNat []).length - p2 := wrap64 (by omega) (by omega)
    simp (maxSteps := 4000000) only [↓wpA_H, ↓wpH_skip, ↓wpH_ret, ↓wpH_seq, ↓wpH_cond, ↓wpH_block, ↓wpH_loop, ↓wpH_region, iselH_if, bselH_false, runH_nil, runH_cons, gw, gselH_plain, gselH_if, kselH_1, cselH_bool, gkind, ↓chk, justK, noW, ↓oneK, ↓pureK, ↓heapK, envOf, ↓thenA_normal, ↓thenA_ret, ↓stepEv, opnd, Pg.look, binK, intOp, dstOf, Bool.not_false, Bool.not_true, Bool.false_eq_true, false_implies, implies_true, imp_self, true_and, and_true, pickC, pickV, unc, gof, mux, mergeK, condsL, valV, heapV, footV, binV, intV, mergeable, look_stripE, ofV, ofLeaf, sameK, retA, resK, tupA, subA, subQ, ptrsE, frzO, subF, subG, pickOf, frzE, frzC, frzL, frz0, frzH, Pg.freeze, List.foldl_nil, subOs, subEv, subV_succ, subM, subL, ldCells, objAt, ↓callT, callC, callV, callH, normArgs, normA, normC, resL, res8_eq, res_succ, resM, shiftR, shift1, AV.cells, TK.cells, AV.definite, AV.leaf, AV.leafy, putCells, lay, buildL, Op.operands, Call.operands, Array.toList_append, List.getElem?_toArray, List.getElem?_cons_succ, List.getElem?_cons_zero, Option.bind_some, Option.getD_some, reduceCtorEq, Nat.reduceEqDiff, Nat.reduceAdd, List.nil_append, List.append_nil, List.cons_append, List.length_cons, List.length_nil, List.map_cons, List.map_nil, List.set_cons_zero, List.set_cons_succ, Nat.zero_add, ite_true, ite_false, Option.some.injEq, Option.isSome_some, AV.agg.injEq, Prod.mk.injEq, Bool.if_true_left, decide_eq_true_eq, decide_eq_false_iff_not, Int.not_lt, List.all_cons, List.all_nil, Bool.and_self, and_self, Bool.not_eq_true', exists_eq_left', pickOK_nil, List.length_map, cInt_dec, List.toList_toArray, cSl_dec, cAgg_dec, lOne_dec, lCons_dec, dec2_some, List.contains_nil, List.range'_zero, decL_str, C1by_ns, C1by_pre, C1by_r, C1by_H, optP_some, optV_some, optH_some, getD_str, List.getD_cons_zero, cutL, List.drop_zero, List.drop_succ_cons, List.take_succ_cons, List.take_zero, Nat.add_zero, Nat.sub_zero, Nat.le_refl, List.drop_nil, List.take_nil, Nat.zero_lt_succ, tk3, tk5, tk9, dz9, tk22, tk24, dz24, tk31, tz31, dz31, tk66, kPlace, kChanged, aCh, aPos, hp, w1]
    refine ⟨fun h => ⟨h, by omega⟩, fun h => ?_, fun h => ⟨by omega, by omega, ?_⟩⟩
    · have e : over ls (p1, p2) c n = ((0, [], []), false) := if_pos (by simpa [hp] using h)
      rw [e]
      exact ⟨⟨rfl, rfl, rfl⟩, rfl⟩
    have e : over ls (p1, p2) c n = _ := if_neg (by simp only [hp, Bool.not_true, Bool.false_or, h]; simp)
    rw [e]
    simp only [Bool.or_eq_false_iff, decide_eq_false_iff_not] at h
    have hy : (p1 + 1).toNat - p1.toNat = 1 := by omega
    generalize hs0 : ls.getD p1.toNat [] = s at hp2 hl w1 h
    refine loopH_intro (α := Nat) (fun i => ([(0, .sl 1 (ls.map .str)), (2, .int .u8 c.toNat), (5, .ptr 0 2 1 0 0), (8, .ptr 1 3 1 0 0), (9, .bool false), (10, .own 2 1 s.length), (40, .int .i64 n), (41, .int .i64 i)], [.arr 24 2 [.agg [.int .i64 p1, .int .i64 p2]], .arr 31 3 [.agg [.int .i64 0, .nls, .nls]], .arr 5 1 (ofBytes (s.take p2.toNat ++ List.replicate i c ++ s.drop (p2.toNat + i)))])) (fun i => (i : Int) ≤ n) (fun i => n.toNat - i) 0 (by omega) ?_ ?_
    · simp (maxSteps := 4000000) only [Pg.look, true_and, and_true, subA, subQ, ptrsE, pairsO, frzO, subF, subG, pickOf, assocN, pairsE, pairsC, pairsL, pairs0, frzE, frzC, frzL, frz0, frzH, Pg.freeze, List.foldl_nil, subOs, subO, subEv, subV_succ, subM, List.getElem?_cons_succ, List.getElem?_cons_zero, reduceCtorEq, Nat.reduceEqDiff, Nat.reduceAdd, List.nil_append, List.append_nil, List.cons_append, Nat.zero_add, ite_true, ite_false, and_self, Int.cast_ofNat_Int, Nat.add_zero, Nat.lt_irrefl, Nat.not_lt_zero]
      exact ⟨rfl, subX_eq rfl rfl, subX_cells (by simp [subL, subC, subV, AV.cells]), subX_eq (by simp) (pureB_bytes _)⟩
    intro i hi
    have hwl : (s.take p2.toNat ++ List.replicate i c ++ s.drop (p2.toNat + i)).length = s.length := by simp; omega
    by_cases hi2 : (i : Int) < n
    · have hct : decide ((i : Int) < n) = true := decide_eq_true hi2
      have w2 : IntKind.i64.wrap (p2 + (i : Int)) = ((p2.toNat + i : Nat) : Int) := by rw [wrap64 (by omega) (by omega)]; omega
      have hset := over_set s p2.toNat i c (by omega)
      generalize hW : s.take p2.toNat ++ List.replicate i c ++ s.drop (p2.toNat + i) = W at hwl hset
      simp (maxSteps := 4000000) only [↓wpA_H, ↓wpH_skip, ↓wpH_seq, ↓wpH_cond, ↓wpH_block, ↓wpH_region, ↓iselH_true, bselH_false, runH_nil, runH_cons, gw, gselH_plain, cselH_bool, ↓chk, justK, noW, ↓oneK, ↓pureK, ↓heapK, ↓thenA_normal, ↓blockA_normal, ↓stepEv, opnd, Pg.look, binK, intOp, Bool.false_eq_true, implies_true, true_and, and_true, valV, heapV, footV, binV, intV, ofV, ofLeaf, subA, subQ, ptrsE, pairsO, frzO, subF, subG, pickOf, assocN, pairsE, pairsC, pairsL, pairs0, frzE, frzC, frzL, frz0, frzH, Pg.freeze, List.foldl_nil, subOs, subO, subEv, subV_succ, subM, ldCells, objAt, AV.cells, TK.cells, AV.leaf, AV.leafy, putCells, List.getElem?_cons_succ, List.getElem?_cons_zero, Option.getD_some, reduceCtorEq, Nat.reduceEqDiff, Nat.reduceAdd, List.nil_append, List.append_nil, List.cons_append, List.length_cons, List.length_nil, List.set_cons_zero, List.set_cons_succ, Nat.zero_add, ite_true, ite_false, Option.some.injEq, List.all_cons, List.all_nil, Bool.and_self, and_self, exists_eq_left', length_ofBytes, getD_ofBytes, set_ofBytes, List.contains_nil, Int.toNat_natCast, List.getD_cons_zero, cutL, Nat.le_refl, Nat.lt_irrefl, Nat.not_lt_zero, Nat.zero_lt_succ, tk3, tk5, dz5, tk24, dz24, tk66, kPlace, kChanged, hct, w2, hwl]
      exact ⟨⟨by omega, by omega⟩, by omega, i + 1, by omega, by omega, rfl, ⟨subX_eq rfl rfl, subX_cells (by simp [subL, subC, subV, AV.cells]), subX_eq (by rw [hset, Nat.add_assoc]) (pureB_bytes _)⟩, by rw [wrap64 (by omega) (by omega)]; rfl⟩
    · have hcf : decide ((i : Int) < n) = false := decide_eq_false hi2
      have hin : (i : Int) = n := by omega
      generalize hW : s.take p2.toNat ++ List.replicate i c ++ s.drop (p2.toNat + i) = W at hwl
      simp (maxSteps := 4000000) only [↓wpA_H, ↓wpH_ret, ↓wpH_exit, ↓wpH_seq, ↓wpH_cond, ↓wpH_region, ↓iselH_false, bselH_false, runH_nil, runH_cons, gw, gselH_plain, cselH_bool, ↓chk, justK, noW, ↓oneK, ↓pureK, ↓heapK, ↓thenA_normal, ↓thenA_exit, ↓blockA_exit, ↓stepEv, opnd, Pg.look, binK, intOp, Bool.false_eq_true, false_implies, implies_true, true_and, and_true, valV, heapV, footV, binV, intV, ofV, ofLeaf, retA, resK, tupA, subA, subQ, ptrsE, frzO, subF, subG, pickOf, frzE, frzC, frzL, frz0, frzH, Pg.freeze, List.foldl_nil, List.foldl_cons, subOs, subEv, subV_succ, subM, subL, srcV, srcL, ldCells, objAt, ↓callT, callC, callV, callH, normArgs, normA, normC, resL, res8_eq, res_succ, resM, shiftR, shift1, AV.cells, TK.cells, AV.definite, AV.leaf, AV.leafy, AV.pureLeaf, AV.pureB, putCells, lay, frzAt, List.getElem?_cons_succ, List.getElem?_cons_zero, Option.getD_some, reduceCtorEq, Nat.reduceEqDiff, Nat.reduceAdd, List.nil_append, List.append_nil, List.cons_append, List.length_cons, List.length_nil, List.map_cons, List.map_nil, List.set_cons_zero, List.set_cons_succ, Nat.zero_add, ite_true, ite_false, Option.some.injEq, Option.isSome_some, AV.str.injEq, Prod.mk.injEq, List.all_cons, List.all_nil, Bool.and_self, and_self, exists_eq_left', pickOK_nil, cInt_dec, rg1, length_ofBytes, Int.reduceLE, bytesOf_ofBytes, cStr_dec, cSl_dec, lOne_dec, lCons_dec, dec2_some, List.contains_nil, beq_self_eq_true, decL_nil, decL_cons, consO_some, List.range'_zero, Nat.reducePow, decL_str, C1by_ns, C1by_pre, C1by_r, C1by_H, optP_some, optV_some, optH_some, List.getD_cons_zero, cutL, List.drop_zero, List.drop_succ_cons, List.take_succ_cons, List.take_zero, Nat.add_zero, Nat.sub_zero, Nat.reduceLeDiff, Nat.le_refl, Nat.mul_one, List.drop_nil, List.take_nil, Nat.zero_lt_succ, tk3, tk5, tk9, eb9, tk22, tk24, dz24, tk31, dz31, tk66, kPlace, kChanged, aCh, hcf, hwl]
      refine ⟨⟨by omega, by omega, by omega⟩, ?_⟩
      rw [← hW, show (p2 + n).toNat = p2.toNat + i by omega, show n.toNat = i by omega]

set_option maxRecDepth 20000 in
set_option maxHeartbeats 4000000 in
theorem calls_same (c : UInt8) (n : Int) (h0 : 0 ≤ n) (h1 : n ≤ 1099511627776) :
    CallsR Tryd.prog 37 [.int .u8 c.toNat, .int .i64 n] [] (.str (List.replicate n.toNat c)) [] := by
  refine callsR_of (mrg := true) (dyn := []) (CtrOK.nil _) mixed Tryd.func37 rfl (by simp [Tryd.ntmps37]) (by kernel_rfl) ?_
  rw [show Tryd.f37.results.toList = [.tmp 4] from by kernel_rfl]
  simp (maxSteps := 4000000) only [↓wpA_H, ↓wpH_seq, ↓wpH_block, ↓wpH_loop, ↓wpH_region, bselH_false, runH_nil, runH_cons, gw, gselH_plain, ↓chk, justK, noW, ↓oneK, ↓pureK, ↓heapK, envOf, ↓thenA_normal, ↓stepEv, opnd, Pg.look, Bool.false_eq_true, implies_true, true_and, and_true, valV, heapV, footV, ofV, ofLeaf, AV.cells, AV.definite, reduceCtorEq, Nat.reduceEqDiff, List.nil_append, List.length_cons, List.length_nil, Nat.zero_add, ite_true, ite_false, Option.some.injEq, and_self, exists_eq_left', List.contains_nil, Int.cast_ofNat_Int, tz5, eb5, tk66]
  refine ⟨⟨h0, by omega⟩, ?_⟩
  refine loopH_intro (α := Nat) (fun i => ([(0, .int .u8 c.toNat), (1, .int .i64 n), (4, .str []), (5, .own 0 1 n.toNat), (6, .int .i64 i)], [.arr 5 1 (ofBytes (List.replicate i c ++ List.replicate (n.toNat - i) 0))])) (fun i => (i : Int) ≤ n) (fun i => n.toNat - i) 0 (by omega) ?_ ?_
  · simp (maxSteps := 4000000) only [Pg.look, true_and, and_true, subA, subQ, ptrsE, pairsO, frzO, subF, subG, pickOf, assocN, pairsE, pairsC, pairs0, frzE, frzC, frz0, frzH, Pg.freeze, List.foldl_nil, subOs, subO, subEv, subV_succ, subM, List.getElem?_cons_zero, reduceCtorEq, Nat.reduceEqDiff, List.nil_append, List.append_nil, ite_true, ite_false, and_self, pickOK_one, Int.cast_ofNat_Int, Nat.sub_zero, Nat.lt_irrefl]
    exact subX_eq (by rw [ofBytes_rep]; simp) (pureB_bytes _)
  intro i hi
  have hwl : (List.replicate i c ++ List.replicate (n.toNat - i) 0).length = n.toNat := by simp; omega
  by_cases hi2 : (i : Int) < n
  · have hct : decide ((i : Int) < n) = true := decide_eq_true hi2
    have hset := fill_set n.toNat i c (by omega)
    generalize hW : List.replicate i c ++ List.replicate (n.toNat - i) 0 = W at hwl hset
    simp (maxSteps := 4000000) only [↓wpA_H, ↓wpH_skip, ↓wpH_seq, ↓wpH_cond, ↓wpH_block, ↓wpH_region, ↓iselH_true, bselH_false, runH_nil, runH_cons, gw, gselH_plain, cselH_bool, ↓chk, justK, ↓oneK, ↓pureK, ↓heapK, ↓thenA_normal, ↓blockA_normal, ↓stepEv, opnd, Pg.look, binK, intOp, Bool.false_eq_true, implies_true, true_and, and_true, valV, heapV, footV, binV, intV, ofV, ofLeaf, subA, subQ, ptrsE, pairsO, frzO, subF, subG, pickOf, assocN, pairsE, pairsC, pairs0, frzE, frzC, frz0, frzH, Pg.freeze, List.foldl_nil, subOs, subO, subEv, subV_succ, subM, AV.cells, TK.cells, AV.leaf, AV.leafy, putCells, List.getElem?_cons_zero, reduceCtorEq, Nat.reduceEqDiff, List.nil_append, List.append_nil, List.length_cons, List.length_nil, List.set_cons_zero, Nat.zero_add, ite_true, ite_false, List.all_cons, List.all_nil, Bool.and_self, and_self, pickOK_one, length_ofBytes, getD_ofBytes, set_ofBytes, List.contains_nil, Int.toNat_natCast, Nat.le_refl, Nat.lt_irrefl, Nat.zero_lt_succ, tk5, dz5, tk66, hct, hwl]
    exact ⟨⟨by omega, by omega⟩, by omega, i + 1, by omega, by omega, subX_eq (by rw [hset]) (pureB_bytes _), by rw [wrap64 (by omega) (by omega)]; rfl⟩
  · have hcf : decide ((i : Int) < n) = false := decide_eq_false hi2
    have hin : i = n.toNat := by omega
    generalize hW : List.replicate i c ++ List.replicate (n.toNat - i) 0 = W at hwl
    simp (maxSteps := 4000000) only [↓wpA_H, ↓wpH_ret, ↓wpH_exit, ↓wpH_seq, ↓wpH_cond, ↓wpH_region, ↓iselH_false, bselH_false, runH_nil, runH_cons, gw, gselH_plain, cselH_bool, ↓chk, justK, noW, ↓oneK, ↓pureK, ↓heapK, ↓thenA_normal, ↓thenA_exit, ↓blockA_exit, ↓stepEv, opnd, Pg.look, binK, intOp, Bool.false_eq_true, implies_true, true_and, and_true, valV, heapV, footV, binV, intV, retA, resK, tupA, subA, subQ, ptrsE, frzO, subF, subG, pickOf, frzE, frzC, frz0, frzH, Pg.freeze, List.foldl_nil, subOs, subEv, subV_succ, subM, srcV, srcL, objAt, List.getElem?_cons_zero, Option.getD_some, reduceCtorEq, Nat.reduceEqDiff, List.append_nil, List.length_nil, ite_true, ite_false, Option.some.injEq, AV.str.injEq, and_self, exists_eq_left', pickOK_nil, length_ofBytes, bytesOf_ofBytes, List.contains_nil, tk5, tk9, tk66, hcf, hwl]
    rw [← hW, hin]; simp

theorem calls_over (ls new : Ls) (a b : Int) (h0 : 0 ≤ a) (h1 : a ≤ b + 1) (h2 : b < ls.length) (hs : ls.length ≤ 1099511627776) :
    CallsR Tryd.prog 35 [.sl 1 (ls.map .str), .int .i64 a, .int .i64 b, .sl 1 (new.map .str)] [] (.tuple [aCh (a, cutL ls a.toNat (b + 1).toNat, new), .bool true]) [] := by
  refine callsR_of (mrg := true) (dyn := []) (CtrOK.nil _) mixed Tryd.func35 rfl (by simp [Tryd.ntmps35]) (by kernel_rfl) ?_
  rw [show Tryd.f35.results.toList = [.cell 8 31, .tmp 9] from by kernel_rfl]
  simp (maxSteps := 4000000) only [↓wpA_H, ↓wpH_ret, ↓wpH_seq, ↓wpH_region, bselH_false, runH_nil, runH_cons, gw, gselH_plain, ↓chk, justK, noW, ↓oneK, ↓pureK, ↓heapK, envOf, ↓thenA_normal, ↓stepEv, opnd, Pg.look, binK, intOp, Bool.false_eq_true, implies_true, true_and, and_true, valV, heapV, footV, binV, intV, cutV, ofV, ofLeaf, retA, resK, tupA, subA, subQ, ptrsE, frzO, subF, subG, pickOf, frzE, frzC, frzL, frz0, frzH, Pg.freeze, List.foldl_nil, List.foldl_cons, subOs, subEv, subV_succ, subM, subL, srcV, srcE, appK, ldCells, objAt, sliceL, res_succ, resM, AV.cells, TK.cells, AV.definite, AV.leaf, AV.leafy, putCells, lay, buildL, frzAt, List.getElem?_cons_succ, List.getElem?_cons_zero, Option.map_some, Option.map_none, Option.getD_some, reduceCtorEq, Nat.reduceEqDiff, Nat.reduceAdd, List.nil_append, List.append_nil, List.cons_append, List.length_cons, List.length_nil, List.map_cons, List.map_nil, List.set_cons_zero, List.set_cons_succ, Nat.zero_add, ite_true, ite_false, Option.some.injEq, Option.isSome_some, AV.sl.injEq, AV.agg.injEq, List.all_cons, List.all_nil, Bool.and_self, and_self, exists_eq_left', pickOK_nil, List.length_map, pureB_strs, resIn, List.contains_cons, List.contains_nil, Bool.or_false, beq_self_eq_true, ← List.map_drop, ← List.map_take, List.getD_cons_zero, cutL, List.drop_zero, List.drop_succ_cons, List.take_succ_cons, List.take_zero, Nat.sub_zero, Nat.reduceLeDiff, Nat.le_refl, List.drop_nil, List.take_nil, Nat.zero_lt_succ, eb9, tk22, tk31, tz31, dz31, aCh]
  rw [wrap64 (n := b + 1) (by omega) (by omega)]
  exact ⟨by omega, by rw [List.length_take, List.length_drop]; omega, rfl⟩
theorem calls_cnone : CallsR Tryd.prog 36 [] [] (.tuple [aCh (0, [], []), .bool false]) [] := by
  refine callsR_of (mrg := true) (dyn := []) (CtrOK.nil _) mixed Tryd.func36 rfl (by simp [Tryd.ntmps36]) (by kernel_rfl) ?_
  rw [show Tryd.f36.results.toList = [.cell 0 31, .tmp 1] from by kernel_rfl]
  simp (maxSteps := 4000000) only [↓wpA_H, ↓wpH_ret, ↓wpH_seq, ↓wpH_region, bselH_false, runH_nil, runH_cons, gw, gselH_plain, ↓chk, justK, noW, ↓oneK, ↓pureK, ↓heapK, envOf, ↓thenA_normal, ↓stepEv, opnd, Pg.look, Bool.false_eq_true, implies_true, true_and, and_true, valV, heapV, footV, ofV, ofLeaf, retA, resK, tupA, subA, subQ, ptrsE, frzO, subF, subG, pickOf, frzE, frzC, frzL, frz0, frzH, Pg.freeze, List.foldl_nil, subOs, subEv, subV_succ, subM, subL, ldCells, objAt, res_succ, resM, AV.cells, TK.cells, AV.definite, AV.leaf, AV.leafy, putCells, lay, buildL, List.getElem?_cons_zero, Option.getD_some, reduceCtorEq, Nat.reduceEqDiff, Nat.reduceAdd, List.nil_append, List.append_nil, List.length_cons, List.length_nil, List.map_nil, List.set_cons_zero, Nat.zero_add, ite_true, ite_false, Option.some.injEq, Option.isSome_some, AV.agg.injEq, List.all_cons, List.all_nil, Bool.and_self, and_self, exists_eq_left', pickOK_nil, List.contains_nil, List.getD_cons_zero, cutL, List.drop_zero, List.drop_succ_cons, List.take_succ_cons, List.take_zero, Nat.sub_zero, Nat.le_refl, List.drop_nil, List.take_nil, Nat.zero_lt_succ, tk31, tz31, dz31, aCh]

def kOver : C1 := C1.by [.sl 1 [], .id, .id, .id] (lCons cStrs (lCons cPos (lCons cByte (lOne (cInt .i64))))) (fun d => small d.1) (fun d => .tuple [aCh (over d.1 d.2.1 d.2.2.1 d.2.2.2).1, .bool (over d.1 d.2.1 d.2.2.1 d.2.2.2).2]) (fun _ => [])
theorem ok_Over : C1OK Tryd.prog 16 kOver := C1OK.by (by kernel_rfl) (fun d h => calls_Over d.1 d.2.1 d.2.2.1 d.2.2.2 h) (fun _ => rfl) (fun _ => rfl)
def kSameB : C1 := C1.by [.id, .id] (lCons cByte (lOne (cInt .i64))) (fun d => 0 ≤ d.2 ∧ d.2 ≤ 1099511627776) (fun d => .str (List.replicate d.2.toNat d.1)) (fun _ => [])
theorem ok_same : C1OK Tryd.prog 37 kSameB := C1OK.by (by kernel_rfl) (fun d h => calls_same d.1 d.2 h.1 h.2) (fun _ => rfl) (fun _ => rfl)
def kROv : C1 := C1.by [.sl 1 [], .id, .id, .sl 1 []] (lCons cStrs (lCons (cInt .i64) (lCons (cInt .i64) (lOne cStrs)))) (fun d => 0 ≤ d.2.1 ∧ d.2.1 ≤ d.2.2.1 + 1 ∧ d.2.2.1 < d.1.length ∧ d.1.length ≤ 1099511627776)
  (fun d => .tuple [aCh (d.2.1, cutL d.1 d.2.1.toNat (d.2.2.1 + 1).toNat, d.2.2.2), .bool true]) (fun _ => [])
theorem ok_over : C1OK Tryd.prog 35 kROv := C1OK.by (by kernel_rfl) (fun d h => calls_over d.1 d.2.2.2 d.2.1 d.2.2.1 h.1 h.2.1 h.2.2.1 h.2.2.2) (fun _ => rfl) (fun _ => rfl)
def kCNone : C1 := C1.by [] lNil (fun _ => True) (fun _ => .tuple [aCh (0, [], []), .bool false]) (fun _ => [])
theorem ok_cnone : C1OK Tryd.prog 36 kCNone := C1OK.by (by kernel_rfl) (fun _ _ => calls_cnone) (fun _ => rfl) (fun _ => rfl)

set_option maxRecDepth 20000 in
set_option maxHeartbeats 4000000 in
theorem calls_ROver (ls : Ls) (p : Int × Int) (c : UInt8) (n : Int) (hs : small ls) :
    CallsR Tryd.prog 17 [.sl 1 (ls.map .str), aPos p, .int .u8 c.toNat, .int .i64 n] [] (.tuple [aCh (over ls p c n).1, .bool (over ls p c n).2]) [] := by
  obtain ⟨p1, p2⟩ := p
  refine callsR_of (mrg := true) (dyn := []) (CtrOK.cons ok_RPlace (CtrOK.cons ok_over (CtrOK.cons ok_same (CtrOK.cons ok_cnone (CtrOK.nil _))))) mixed Tryd.func17 rfl (by simp [Tryd.ntmps17]) (by kernel_rfl) ?_
  rw [show Tryd.f17.results.toList = [.cell 8 31, .tmp 9] from by kernel_rfl]
  cases hp : place ls p1 p2 with
  | false =>
    simp (maxSteps := 4000000) only [↓wpA_H, ↓wpH_ret, ↓wpH_seq, ↓wpH_cond, ↓wpH_region, ↓iselH_true, bselH_false, runH_nil, runH_cons, gw, gselH_plain, gselH_if, kselH_1, cselH_bool, gkind, ↓chk, justK, noW, ↓oneK, ↓pureK, ↓heapK, envOf, ↓thenA_normal, ↓thenA_ret, ↓stepEv, opnd, Pg.look, binK, intOp, dstOf, Bool.not_false, Bool.not_true, Bool.false_eq_true, Bool.true_eq_false, false_implies, implies_true, imp_self, true_and, and_true, pickC, pickV, unc, gof, mux, mergeK, condsL, valV, heapV, footV, binV, intV, mergeable, look_stripE, ofV, ofLeaf, sameK, retA, resK, tupA, subA, subQ, ptrsE, frzO, subF, subG, pickOf, frzE, frzC, frzL, frz0, frzH, Pg.freeze, List.foldl_nil, subOs, subEv, subV_succ, subM, subL, ldCells, objAt, ↓callT, callC, callV, callH, normArgs, normA, normC, resL, res8_eq, res_succ, resM, shiftR, shift1, AV.cells, TK.cells, AV.definite, AV.leaf, AV.leafy, putCells, lay, Op.operands, Call.operands, Array.toList_append, List.getElem?_toArray, List.getElem?_cons_succ, List.getElem?_cons_zero, Option.bind_some, Option.getD_some, reduceCtorEq, Nat.reduceEqDiff, Nat.reduceAdd, List.nil_append, List.append_nil, List.cons_append, List.length_cons, List.length_nil, List.map_cons, List.map_nil, List.set_cons_zero, List.set_cons_succ, Nat.zero_add, ite_true, ite_false, Option.some.injEq, Prod.mk.injEq, List.all_cons, List.all_nil, Bool.and_self, and_self, exists_eq_left', pickOK_nil, List.length_map, cInt_dec, List.toList_toArray, cSl_dec, cAgg_dec, lNil_dec, lOne_dec, lCons_dec, dec2_some, List.contains_nil, Bool.true_or, List.range'_zero, decL_str, C1by_ns, C1by_pre, C1by_r, C1by_H, optP_some, optV_some, optH_some, getD_str, List.getD_cons_zero, cutL, List.drop_zero, List.drop_succ_cons, List.take_succ_cons, List.take_zero, Nat.add_zero, Nat.sub_zero, Nat.le_refl, List.drop_nil, List.take_nil, Nat.zero_lt_succ, tk3, tk9, dz9, tk22, tk24, dz24, tk31, tz31, dz31, kPlace, kROv, kSameB, kCNone, aCh, aPos, hp, over]
  | true =>
    have hp2 := hp
    rw [place_iff] at hp2
    have hl := hs.2 p1.toNat
    have hl1 := hs.1
    have w1 : IntKind.i64.wrap (((ls.getD p1.toNat []).length : Int) - p2) = (ls.getD p1.toNat []).length - p2 := wrap64 (by omega) (by omega)
    simp (maxSteps := 4000000) only [↓wpA_H, ↓wpH_skip, ↓wpH_ret, ↓wpH_seq, ↓wpH_cond, ↓wpH_region, iselH_if, bselH_false, runH_nil, runH_cons, gw, gselH_plain, gselH_if, kselH_1, cselH_bool, gkind, ↓chk, justK, noW, ↓oneK, ↓pureK, ↓heapK, envOf, ↓thenA_normal, ↓thenA_ret, ↓stepEv, opnd, Pg.look, binK, intOp, strOp, dstOf, Bool.not_false, Bool.not_true, Bool.false_eq_true, false_implies, implies_true, imp_self, true_and, and_true, pickC, pickV, unc, gof, mux, mergeK, condsL, valV, heapV, footV, binV, intV, strV, cutV, mergeable, look_stripE, ofV, ofLeaf, sameK, retA, resK, tupA, subA, subQ, ptrsE, frzO, subF, subG, pickOf, frzE, frzC, frzL, frz0, frzH, Pg.freeze, List.foldl_nil, List.foldl_cons, subOs, subEv, subV_succ, subM, subL, ldCells, objAt, sliceS, ↓callT, callC, callV, callH, normArgs, normA, normC, resL, res8_eq, res_succ, resM, shiftR, shift1, AV.cells, TK.cells, AV.definite, AV.leaf, AV.leafy, AV.pureLeaf, AV.pureB, putCells, lay, frzAt, Op.operands, Call.operands, Array.toList_append, List.getElem?_toArray, List.getElem?_cons_succ, List.getElem?_cons_zero, Option.bind_some, Option.map_some, Option.map_none, Option.getD_some, reduceCtorEq, Nat.reduceEqDiff, Nat.reduceAdd, List.nil_append, List.append_nil, List.cons_append, List.length_cons, List.length_nil, List.map_cons, List.map_nil, List.set_cons_zero, List.set_cons_succ, Nat.zero_add, ite_true, ite_false, Option.some.injEq, Option.isSome_some, Prod.mk.injEq, Bool.if_true_left, decide_eq_true_eq, decide_eq_false_iff_not, Int.not_lt, List.all_cons, List.all_nil, Bool.and_self, and_self, Bool.not_eq_true', exists_eq_left', pickOK_nil, List.length_map, cInt_dec, List.toList_toArray, List.length_append, rg1, cByte_dec, cStr_dec, cSl_dec, cAgg_dec, lNil_dec, lOne_dec, lCons_dec, dec2_some, List.contains_nil, beq_self_eq_true, decL_nil, decL_cons, consO_some, List.range'_zero, Nat.reducePow, decL_str, C1by_ns, C1by_pre, C1by_r, C1by_H, optP_some, optV_some, optH_some, getD_str, List.getD_cons_zero, cutL, List.drop_zero, List.drop_succ_cons, List.take_succ_cons, List.take_zero, Nat.add_zero, Nat.sub_zero, Nat.reduceLeDiff, Nat.le_refl, Nat.mul_one, List.drop_nil, List.take_nil, Nat.zero_lt_succ, tk3, tk9, dz9, eb9, tk22, tk24, dz24, tk31, tz31, dz31, kPlace, kROv, kSameB, kCNone, aCh, aPos, hp, w1]
    refine ⟨fun h => ⟨h, by omega⟩, fun h => ?_, fun h => ?_⟩
    · have e : over ls (p1, p2) c n = ((0, [], []), false) := if_pos (by simpa [hp] using h)
      rw [e]
      exact ⟨⟨rfl, rfl, rfl⟩, rfl⟩
    have e : over ls (p1, p2) c n = _ := if_neg (by simp only [hp, Bool.not_true, Bool.false_or, h]; simp)
    rw [e]
    simp only [Bool.or_eq_false_iff, decide_eq_false_iff_not] at h
    rw [wrap64 (n := p2 + n) (by omega) (by omega)]
    exact ⟨by omega, by omega, by omega, by rw [List.length_take, List.length_replicate]; omega, by omega, by rw [List.length_take, List.length_replicate, List.length_drop]; omega, by omega, ⟨rfl, rfl, rfl⟩, rfl⟩

set_option maxRecDepth 20000 in
set_option maxHeartbeats 4000000 in
theorem calls_RWrite (ls text : Ls) (l c : Int) (hb : small ls) (ht : small text) :
    CallsR Tryd.prog 14 [.sl 1 (ls.map .str), .agg [.int .i64 l, .int .i64 c], .sl 1 (text.map .str)] []
      (.tuple [aCh (write ls l c text).1, aPos (write ls l c text).2.1, .bool (write ls l c text).2.2]) [] := by
  refine callsR_of (mrg := true) (dyn := [10]) (CtrOK.cons ok_RPlace (CtrOK.cons ok_over (CtrOK.nil _))) mixed Tryd.func14 rfl (by simp [Tryd.ntmps14]) (by kernel_rfl) ?_
  rw [show Tryd.f14.results.toList = [.cell 6 31, .cell 7 24, .tmp 8] from by kernel_rfl]
  simp (maxSteps := 4000000) only [↓wpA_H, ↓wpH_skip, ↓wpH_ret, ↓wpH_seq, ↓wpH_cond, ↓wpH_region, bselH_true, iselH_if, bselH_false, runH_nil, runH_cons, gw, gselH_plain, gselH_if, kselH_1, cselH_bool, gkind, ↓chk, justK, noW, ↓oneK, ↓pureK, ↓heapK, envOf, ↓thenA_normal, ↓thenA_ret, ↓stepEv, opnd, Pg.look, binK, intOp, strOp, dstOf, Bool.false_eq_true, false_implies, implies_true, imp_self, true_and, and_true, forall_const, pickC, pickV, unc, gof, mux, mergeK, condsL, valV, heapV, footV, binV, intV, strV, cutV, mergeable, look_stripE, ofV, ofLeaf, sameK, retA, resK, tupA, subA, subQ, ptrsE, frzO, subF, subG, pickOf, frzE, frzC, frzL, frz0, frzH, Pg.freeze, List.foldl_nil, List.foldl_cons, subOs, subEv, subV_succ, subM, subL, slen, srcV, srcE, appK, ldCells, objAt, sliceS, ↓callT, callC, callV, callH, normArgs, normA, normC, resL, res8_eq, res_succ, resM, shiftR, shift1, AV.cells, TK.cells, AV.definite, AV.leaf, AV.leafy, putCells, lay, buildL, frzAt, Op.operands, Call.operands, Array.toList_append, List.getElem?_toArray, List.getElem?_cons_succ, List.getElem?_cons_zero, Option.bind_some, Option.map_some, Option.map_none, Option.getD_some, reduceCtorEq, Nat.reduceEqDiff, Nat.reduceAdd, List.nil_append, List.append_nil, List.cons_append, List.length_cons, List.length_nil, List.map_cons, List.map_nil, List.set_cons_zero, List.set_cons_succ, Nat.zero_add, Int.reduceToNat, ite_true, ite_false, Option.some.injEq, Option.isSome_some, AV.int.injEq, AV.agg.injEq, Prod.mk.injEq, Bool.if_true_left, List.all_cons, List.all_nil, Bool.and_self, and_self, Bool.not_eq_true', exists_eq_left', pickOK_nil, List.length_map, cInt_dec, List.toList_toArray, Int.reduceLE, cSl_dec, cAgg_dec, lOne_dec, lCons_dec, dec2_some, set_str, List.length_set, pureB_strs, List.contains_cons, List.contains_nil, Nat.reduceBEq, Bool.or_self, Bool.or_false, beq_self_eq_true, List.range'_zero, decL_str, C1by_ns, C1by_pre, C1by_r, C1by_H, optP_some, optV_some, optH_some, getD_str, List.getD_cons_zero, cutL, List.drop_zero, List.drop_succ_cons, List.take_succ_cons, List.take_zero, Nat.add_zero, Nat.sub_zero, Nat.reduceLeDiff, Nat.le_refl, List.drop_nil, List.take_nil, Nat.zero_lt_succ, tk3, tk9, dz9, eb9, tk22, tk24, tz24, dz24, tk31, tz31, dz31, kPlace, kROv, aCh, aPos]
  refine ⟨fun h => ?_, fun h => ?_⟩
  · have h1 : ¬ (place ls l c && decide (0 < text.length)) = true := by
      simp at h ⊢
      intro hp
      rcases h with h | h
      · rw [h] at hp; cases hp
      · simp [h]
    simp only [write, if_neg h1]
    simp
  · have h1 : (place ls l c && decide (0 < text.length)) = true := by
      simp at h ⊢
      exact ⟨h.1, by have := h.2; cases text with
        | nil => exact absurd rfl this
        | cons => simp⟩
    simp only [Bool.and_eq_true, decide_eq_true_eq] at h1
    have hw : write ls l c text = _ := if_pos (by simpa using h1)
    rw [hw]
    obtain ⟨hp, ht0⟩ := h1
    rw [place_iff] at hp
    have hs := hb.2 l.toNat
    have ht1 := ht.2 0
    have hb1 := hb.1
    have htl := ht.1
    rw [wrap64 (n := (text.length : Int) - 1) (by omega) (by omega)]
    have hk : ((text.length : Int) - 1).toNat = text.length - 1 := by omega
    rw [hk]
    have hx : ((text.set 0 ((ls.getD l.toNat []).take c.toNat ++ text.getD 0 [])).getD (text.length - 1) []).length ≤ 2199023255552 := by
      rw [getD_setL]
      have := ht.2 (text.length - 1)
      split
      · simp only [List.length_append, List.length_take]; omega
      · omega
    have hy : (l + 1).toNat - l.toNat = 1 := by omega
    have hwl : IntKind.i64.wrap (l + ((text.length : Int) - 1)) = l + ((text.length - 1 : Nat) : Int) := by rw [wrap64 (by omega) (by omega)]; omega
    refine ⟨by omega, by omega, by omega, by omega, by omega, by rw [List.length_take]; omega, by omega, by omega, by omega, by omega, by omega, by omega, by omega, by rw [List.length_drop]; omega, by omega, by omega, by omega, rfl, ⟨rfl, ?_, rfl⟩, ⟨?_, rfl⟩, rfl⟩
    · rw [hy, take1_drop ls l.toNat [] (by omega)]
    · exact hwl
def kROver : C1 := kOver
theorem ok_ROver : C1OK Tryd.prog 17 kOver := C1OK.by (by kernel_rfl) (fun d h => calls_ROver d.1 d.2.1 d.2.2.1 d.2.2.2 h) (fun _ => rfl) (fun _ => rfl)
theorem ok_RWrite : C1OK Tryd.prog 14 kWrite := C1OK.by (by kernel_rfl) (fun d h => calls_RWrite d.1 d.2.2 d.2.1.1 d.2.1.2 h.1 h.2) (fun _ => rfl) (fun _ => rfl)
end Go.Pg
