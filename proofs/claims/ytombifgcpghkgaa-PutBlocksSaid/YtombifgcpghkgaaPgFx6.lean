/- Where a register is put, and how. Chapter 29's example; a cut, by the document. -/
import Derived.Test.YtombifgcpghkgaaPgFx5
import Derived.Test.YtombifgcpghkgaaPgFx2
namespace Go.Pg
open Go Go.Proofs

def atR (ls : Ls) (p : Int × Int) (r : Reg) (before : Bool) (n : Int) : Ch × (Int × Int) × Bool :=
  if (r.1 == 0) = true then charsR ls (if before = true then p else (p.1, min (p.2 + 1) (ls.getD p.1.toNat []).length)) r n
  else if (r.1 == 1) = true then wholeR (if before = true then p.1 else p.1 + 1) r n
  else if (r.1 == 2) = true then blockR ls (if (!before && decide (0 < (ls.getD p.1.toNat []).length)) = true then (p.1, p.2 + 1) else p) r n
  else ((0, [], []), (0, 0), false)

def fineR (r : Reg) : Prop := 0 < r.2.length ∧ r.2.length ≤ 4096 ∧ ∀ i, (r.2.getD i []).length ≤ 4096

set_option maxRecDepth 20000 in
set_option maxHeartbeats 4000000 in
theorem calls_at (ls : Ls) (p : Int × Int) (r : Reg) (before : Bool) (n : Int) (hs : small ls) (h1 : 1 ≤ n ∧ n ≤ 9999) (hr : fineR r) (hp : place ls p.1 p.2 = true) (hl : (ls.getD p.1.toNat []).length ≤ 1099511627775) :
    CallsR Try.prog 41 [.sl 1 (ls.map .str), aPos p, aReg r, .bool before, .int .i64 n] [] (.tuple [aCh (atR ls p r before n).1, aPos (atR ls p r before n).2.1, .bool (atR ls p r before n).2.2]) [] := by
  obtain ⟨k, L⟩ := r
  obtain ⟨p1, p2⟩ := p
  rw [place_iff] at hp
  simp only at hp hl
  obtain ⟨v1, v2, v3, v4⟩ := hp
  obtain ⟨r1, r2, r3⟩ := hr
  simp only at r1 r2 r3
  have hll := hs.1
  have w1 : IntKind.i64.wrap (p2 + 1) = p2 + 1 := wrap64 (by omega) (by omega)
  have w2 : IntKind.i64.wrap (p1 + 1) = p1 + 1 := wrap64 (by omega) (by omega)
  refine callsR_of (mrg := true) (dyn := []) (CtrOK.cons ok_chars (CtrOK.cons ok_whole (CtrOK.cons ok_block (CtrOK.nil _)))) mixed Try.func41 rfl (by simp [Try.ntmps41]) (by kernel_rfl) ?_
  rw [show Try.f41.results.toList = [.cell 10 35, .cell 11 27, .tmp 12] from by kernel_rfl]
  cases h0 : k == 0 with
  | true =>
    have e : atR ls (p1, p2) (k, L) before n = charsR ls (if before = true then (p1, p2) else (p1, min (p2 + 1) (ls.getD p1.toNat []).length)) (k, L) n := if_pos h0
    rw [e]
    cases before with
    | true =>
      simp (maxSteps := 4000000) only [↓wpA_H, ↓wpH_skip, ↓wpH_ret, ↓wpH_seq, ↓wpH_cond, ↓wpH_block, ↓wpH_region, ↓iselH_true, ↓iselH_false, bselH_false, runH_nil, runH_cons, gw, gselH_plain, cselH_bool, ↓chk, justK, noW, ↓oneK, ↓pureK, ↓heapK, envOf, ↓thenA_normal, ↓thenA_ret, ↓blockA_ret, ↓stepEv, opnd, Pg.look, binK, intOp, Bool.not_true, Bool.false_eq_true, false_implies, implies_true, true_and, and_true, valV, heapV, footV, binV, intV, ofV, ofLeaf, retA, resK, tupA, subA, subQ, ptrsE, frzO, subF, subG, pickOf, frzE, frzC, frzL, frz0, frzH, Pg.freeze, List.foldl_nil, subOs, subEv, subV_succ, subM, subL, ldCells, objAt, ↓callT, callC, callV, callH, normArgs, normA, normC, normL, resL, res8_eq, res_succ, resM, shiftR, shift1, AV.cells, TK.cells, AV.definite, AV.leaf, AV.leafy, putCells, lay, List.getElem?_cons_succ, List.getElem?_cons_zero, Option.getD_some, reduceCtorEq, Nat.reduceEqDiff, Nat.reduceAdd, List.nil_append, List.append_nil, List.cons_append, List.length_cons, List.length_nil, List.map_cons, List.map_nil, List.set_cons_zero, List.set_cons_succ, Nat.zero_add, ite_true, ite_false, Option.some.injEq, Prod.mk.injEq, List.all_cons, List.all_nil, Bool.and_self, and_self, exists_eq_left', pickOK_nil, List.length_map, cInt_dec, cSl_dec, cAgg_dec, lOne_dec, lCons_dec, dec2_some, List.contains_nil, List.range'_zero, decL_str, C1by_ns, C1by_pre, C1by_r, C1by_H, optP_some, optV_some, optH_some, getD_str, List.getD_cons_zero, cutL, List.drop_zero, List.drop_succ_cons, List.take_succ_cons, List.take_zero, Nat.add_zero, Nat.sub_zero, Nat.le_refl, List.drop_nil, List.take_nil, Nat.zero_lt_succ, tk3, tk9, dz9, tk22, tk27, tz27, dz27, tk32, dz32, tk35, tz35, dz35, kChars, kWhole, kBlock, aReg, aPos, aCh, h0]
      exact ⟨⟨v1, v2⟩, hs, h1, ⟨r1, r2, r3⟩, by omega, by omega⟩
    | false =>
      simp (maxSteps := 4000000) only [↓wpA_H, ↓wpH_ret, ↓wpH_seq, ↓wpH_cond, ↓wpH_block, ↓wpH_region, ↓iselH_true, bselH_false, runH_nil, runH_cons, gw, gselH_plain, cselH_bool, ↓chk, justK, noW, ↓oneK, ↓pureK, ↓heapK, envOf, ↓thenA_normal, ↓thenA_ret, ↓blockA_ret, ↓stepEv, opnd, Pg.look, binK, intOp, Bool.not_false, Bool.false_eq_true, false_implies, implies_true, true_and, and_true, valV, heapV, footV, binV, intV, ofV, ofLeaf, retA, resK, tupA, subA, subQ, ptrsE, frzO, subF, subG, pickOf, frzE, frzC, frzL, frz0, frzH, Pg.freeze, List.foldl_nil, subOs, subEv, subV_succ, subM, subL, ldCells, objAt, ↓callT, callC, callV, callH, normArgs, normA, normC, normL, resL, res8_eq, res_succ, resM, shiftR, shift1, AV.cells, TK.cells, AV.definite, AV.leaf, AV.leafy, putCells, lay, foldInts, List.getElem?_cons_succ, List.getElem?_cons_zero, Option.getD_some, reduceCtorEq, Nat.reduceEqDiff, Nat.reduceAdd, List.nil_append, List.append_nil, List.cons_append, List.length_cons, List.length_nil, List.map_cons, List.map_nil, List.set_cons_zero, List.set_cons_succ, Nat.zero_add, ite_true, ite_false, Option.some.injEq, AV.int.injEq, Prod.mk.injEq, List.all_cons, List.all_nil, Bool.and_self, and_self, exists_eq_left', pickOK_nil, List.length_map, cInt_dec, cSl_dec, cAgg_dec, lOne_dec, lCons_dec, dec2_some, List.contains_nil, List.range'_zero, decL_str, C1by_ns, C1by_pre, C1by_r, C1by_H, optP_some, optV_some, optH_some, getD_str, List.getD_cons_zero, cutL, List.drop_zero, List.drop_succ_cons, List.take_succ_cons, List.take_zero, Nat.add_zero, Nat.sub_zero, Nat.le_refl, List.drop_nil, List.take_nil, Nat.zero_lt_succ, tk3, tk9, dz9, tk22, tk27, tz27, dz27, tk32, dz32, tk35, tz35, dz35, kChars, kWhole, kBlock, aReg, aPos, aCh, h0, w1]
      exact ⟨⟨v1, v2⟩, hs, h1, ⟨r1, r2, r3⟩, by omega, by omega⟩
  | false =>
  cases h1k : k == 1 with
  | true =>
    have e : atR ls (p1, p2) (k, L) before n = wholeR (if before = true then p1 else p1 + 1) (k, L) n := by
      unfold atR
      rw [if_neg (by simp [h0]), if_pos h1k]
    rw [e]
    cases before with
    | true =>
      simp (maxSteps := 4000000) only [↓wpA_H, ↓wpH_skip, ↓wpH_ret, ↓wpH_seq, ↓wpH_cond, ↓wpH_block, ↓wpH_region, ↓iselH_true, ↓iselH_false, bselH_false, runH_nil, runH_cons, gw, gselH_plain, cselH_bool, ↓chk, justK, noW, ↓oneK, ↓pureK, ↓heapK, envOf, ↓thenA_normal, ↓thenA_ret, ↓blockA_ret, ↓stepEv, opnd, Pg.look, binK, intOp, Bool.not_true, Bool.false_eq_true, false_implies, implies_true, true_and, and_true, valV, heapV, footV, binV, intV, ofV, ofLeaf, retA, resK, tupA, subA, subQ, ptrsE, frzO, subF, subG, pickOf, frzE, frzC, frzL, frz0, frzH, Pg.freeze, List.foldl_nil, subOs, subEv, subV_succ, subM, subL, ldCells, objAt, ↓callT, callC, callV, callH, normArgs, normA, normC, normL, resL, res8_eq, res_succ, resM, shiftR, shift1, AV.cells, TK.cells, AV.definite, AV.leaf, AV.leafy, putCells, lay, List.getElem?_cons_succ, List.getElem?_cons_zero, Option.getD_some, reduceCtorEq, Nat.reduceEqDiff, Nat.reduceAdd, List.nil_append, List.append_nil, List.cons_append, List.length_cons, List.length_nil, List.map_cons, List.map_nil, List.set_cons_zero, List.set_cons_succ, Nat.zero_add, ite_true, ite_false, Option.some.injEq, Prod.mk.injEq, List.all_cons, List.all_nil, Bool.and_self, and_self, exists_eq_left', pickOK_nil, List.length_map, cInt_dec, cSl_dec, cAgg_dec, lOne_dec, lCons_dec, dec2_some, List.contains_nil, List.range'_zero, decL_str, C1by_ns, C1by_pre, C1by_r, C1by_H, optP_some, optV_some, optH_some, getD_str, List.getD_cons_zero, cutL, List.drop_zero, List.drop_succ_cons, List.take_succ_cons, List.take_zero, Nat.add_zero, Nat.sub_zero, Nat.le_refl, List.drop_nil, List.take_nil, Nat.zero_lt_succ, tk3, tk9, dz9, tk22, tk27, tz27, dz27, tk32, dz32, tk35, tz35, dz35, kChars, kWhole, kBlock, aReg, aPos, aCh, h0, h1k]
      exact ⟨⟨v1, v2⟩, h1, r1, r2, r3⟩
    | false =>
      simp (maxSteps := 4000000) only [↓wpA_H, ↓wpH_ret, ↓wpH_seq, ↓wpH_cond, ↓wpH_block, ↓wpH_region, ↓iselH_true, ↓iselH_false, bselH_false, runH_nil, runH_cons, gw, gselH_plain, cselH_bool, ↓chk, justK, noW, ↓oneK, ↓pureK, ↓heapK, envOf, ↓thenA_normal, ↓thenA_ret, ↓blockA_ret, ↓stepEv, opnd, Pg.look, binK, intOp, Bool.not_false, Bool.false_eq_true, false_implies, implies_true, true_and, and_true, valV, heapV, footV, binV, intV, ofV, ofLeaf, retA, resK, tupA, subA, subQ, ptrsE, frzO, subF, subG, pickOf, frzE, frzC, frzL, frz0, frzH, Pg.freeze, List.foldl_nil, subOs, subEv, subV_succ, subM, subL, ldCells, objAt, ↓callT, callC, callV, callH, normArgs, normA, normC, normL, resL, res8_eq, res_succ, resM, shiftR, shift1, AV.cells, TK.cells, AV.definite, AV.leaf, AV.leafy, putCells, lay, List.getElem?_cons_succ, List.getElem?_cons_zero, Option.getD_some, reduceCtorEq, Nat.reduceEqDiff, Nat.reduceAdd, List.nil_append, List.append_nil, List.cons_append, List.length_cons, List.length_nil, List.map_cons, List.map_nil, List.set_cons_zero, List.set_cons_succ, Nat.zero_add, ite_true, ite_false, Option.some.injEq, Prod.mk.injEq, List.all_cons, List.all_nil, Bool.and_self, and_self, exists_eq_left', pickOK_nil, List.length_map, cInt_dec, cSl_dec, cAgg_dec, lOne_dec, lCons_dec, dec2_some, List.contains_nil, List.range'_zero, decL_str, C1by_ns, C1by_pre, C1by_r, C1by_H, optP_some, optV_some, optH_some, getD_str, List.getD_cons_zero, cutL, List.drop_zero, List.drop_succ_cons, List.take_succ_cons, List.take_zero, Nat.add_zero, Nat.sub_zero, Nat.reduceLeDiff, Nat.le_refl, List.drop_nil, List.take_nil, Nat.zero_lt_succ, tk3, tk9, dz9, tk22, tk27, tz27, dz27, tk32, dz32, tk35, tz35, dz35, kChars, kWhole, kBlock, aReg, aPos, aCh, h0, h1k, w2]
      exact ⟨⟨v1, v2⟩, h1, r1, r2, r3⟩
  | false =>
  cases h2k : k == 2 with
  | true =>
    have e : atR ls (p1, p2) (k, L) before n = blockR ls (if (!before && decide (0 < (ls.getD p1.toNat []).length)) = true then (p1, p2 + 1) else (p1, p2)) (k, L) n := by
      unfold atR
      rw [if_neg (by simp [h0]), if_neg (by simp [h1k]), if_pos h2k]
    rw [e]
    cases hb : (!before && decide (0 < (ls.getD p1.toNat []).length)) with
    | true =>
      simp only [Bool.and_eq_true, Bool.not_eq_true'] at hb
      obtain ⟨rfl, hb2⟩ := hb
      simp only [decide_eq_true_eq] at hb2
      have hb3 : decide (((ls.getD p1.toNat []).length : Int) > 0) = true := decide_eq_true (by omega)
      simp (maxSteps := 4000000) only [↓wpA_H, ↓wpH_ret, ↓wpH_seq, ↓wpH_cond, ↓wpH_block, ↓wpH_region, ↓iselH_true, ↓iselH_false, bselH_false, runH_nil, runH_cons, gw, gselH_plain, gselH_if, kselH_1, cselH_bool, gkind, ↓chk, justK, noW, ↓oneK, ↓pureK, ↓heapK, envOf, ↓thenA_normal, ↓thenA_ret, ↓blockA_ret, ↓stepEv, opnd, Pg.look, binK, intOp, dstOf, Bool.not_false, Bool.not_true, Bool.false_eq_true, Bool.true_eq_false, false_implies, implies_true, true_and, and_true, pickC, pickV, unc, gof, mux, mergeK, condsL, valV, heapV, footV, binV, intV, mergeable, look_stripE, ofV, ofLeaf, sameK, retA, resK, tupA, subA, subQ, ptrsE, frzO, subF, subG, pickOf, frzE, frzC, frzL, frz0, frzH, Pg.freeze, List.foldl_nil, subOs, subEv, subV_succ, subM, subL, ldCells, objAt, ↓callT, callC, callV, callH, normArgs, normA, normC, normL, resL, res8_eq, res_succ, resM, shiftR, shift1, AV.cells, TK.cells, AV.definite, AV.leaf, AV.leafy, putCells, lay, Op.operands, List.getElem?_toArray, List.getElem?_cons_succ, List.getElem?_cons_zero, Option.bind_some, Option.getD_some, reduceCtorEq, Nat.reduceEqDiff, Nat.reduceAdd, List.nil_append, List.append_nil, List.cons_append, List.length_cons, List.length_nil, List.map_cons, List.map_nil, List.set_cons_zero, List.set_cons_succ, Nat.zero_add, ite_true, ite_false, Option.some.injEq, Prod.mk.injEq, List.all_cons, List.all_nil, Bool.and_self, and_self, exists_eq_left', pickOK_nil, List.length_map, cInt_dec, List.toList_toArray, cSl_dec, cAgg_dec, lOne_dec, lCons_dec, dec2_some, List.contains_nil, List.range'_zero, decL_str, C1by_ns, C1by_pre, C1by_r, C1by_H, optP_some, optV_some, optH_some, getD_str, List.getD_cons_zero, cutL, List.drop_zero, List.drop_succ_cons, List.take_succ_cons, List.take_zero, Nat.add_zero, Nat.sub_zero, Nat.le_refl, List.drop_nil, List.take_nil, Nat.zero_lt_succ, tk3, tk9, dz9, tk22, tk27, tz27, dz27, tk32, dz32, tk35, tz35, dz35, kChars, kWhole, kBlock, aReg, aPos, aCh, h0, h1k, h2k, w1, hb3]
      exact ⟨⟨v1, v2⟩, hs, h1, ⟨r1, r2, r3⟩, by omega, by omega, by omega, by omega⟩
    | false =>
      cases before with
      | true =>
        simp (maxSteps := 4000000) only [↓wpA_H, ↓wpH_skip, ↓wpH_ret, ↓wpH_seq, ↓wpH_cond, ↓wpH_block, ↓wpH_region, ↓iselH_true, ↓iselH_false, bselH_false, runH_nil, runH_cons, gw, gselH_plain, gselH_if, kselH_1, cselH_bool, gkind, ↓chk, justK, noW, ↓oneK, ↓pureK, ↓heapK, envOf, ↓thenA_normal, ↓thenA_ret, ↓blockA_ret, ↓stepEv, opnd, Pg.look, binK, intOp, dstOf, Bool.not_false, Bool.not_true, Bool.false_eq_true, false_implies, implies_true, imp_self, true_and, and_true, pickC, pickV, unc, gof, mux, mergeK, condsL, valV, heapV, footV, binV, intV, mergeable, look_stripE, ofV, ofLeaf, sameK, retA, resK, tupA, subA, subQ, ptrsE, frzO, subF, subG, pickOf, frzE, frzC, frzL, frz0, frzH, Pg.freeze, List.foldl_nil, subOs, subEv, subV_succ, subM, subL, ldCells, objAt, ↓callT, callC, callV, callH, normArgs, normA, normC, normL, resL, res8_eq, res_succ, resM, shiftR, shift1, AV.cells, TK.cells, AV.definite, AV.leaf, AV.leafy, putCells, lay, Op.operands, List.getElem?_toArray, List.getElem?_cons_succ, List.getElem?_cons_zero, Option.bind_some, Option.getD_some, reduceCtorEq, Nat.reduceEqDiff, Nat.reduceAdd, List.nil_append, List.append_nil, List.cons_append, List.length_cons, List.length_nil, List.map_cons, List.map_nil, List.set_cons_zero, List.set_cons_succ, Nat.zero_add, ite_true, ite_false, Option.some.injEq, Prod.mk.injEq, List.all_cons, List.all_nil, Bool.and_self, and_self, exists_eq_left', pickOK_nil, List.length_map, cInt_dec, List.toList_toArray, cSl_dec, cAgg_dec, lOne_dec, lCons_dec, dec2_some, List.contains_nil, List.range'_zero, decL_str, C1by_ns, C1by_pre, C1by_r, C1by_H, optP_some, optV_some, optH_some, getD_str, List.getD_cons_zero, cutL, List.drop_zero, List.drop_succ_cons, List.take_succ_cons, List.take_zero, Nat.add_zero, Nat.sub_zero, Nat.le_refl, List.drop_nil, List.take_nil, Nat.zero_lt_succ, tk3, tk9, dz9, tk22, tk27, tz27, dz27, tk32, dz32, tk35, tz35, dz35, kChars, kWhole, kBlock, aReg, aPos, aCh, h0, h1k, h2k]
        exact ⟨⟨v1, v2⟩, hs, h1, ⟨r1, r2, r3⟩, by omega, by omega, by omega, by omega⟩
      | false =>
        simp only [Bool.not_false, Bool.true_and, decide_eq_false_iff_not] at hb
        have hb3 : decide (((ls.getD p1.toNat []).length : Int) > 0) = false := decide_eq_false (by omega)
        simp (maxSteps := 4000000) only [↓wpA_H, ↓wpH_skip, ↓wpH_ret, ↓wpH_seq, ↓wpH_cond, ↓wpH_block, ↓wpH_region, ↓iselH_true, ↓iselH_false, bselH_false, runH_nil, runH_cons, gw, gselH_plain, gselH_if, kselH_1, cselH_bool, gkind, ↓chk, justK, noW, ↓oneK, ↓pureK, ↓heapK, envOf, ↓thenA_normal, ↓thenA_ret, ↓blockA_ret, ↓stepEv, opnd, Pg.look, binK, intOp, dstOf, Bool.not_false, Bool.not_true, Bool.false_eq_true, Bool.true_eq_false, false_implies, implies_true, true_and, and_true, pickC, pickV, unc, gof, mux, mergeK, condsL, valV, heapV, footV, binV, intV, mergeable, look_stripE, ofV, ofLeaf, sameK, retA, resK, tupA, subA, subQ, ptrsE, frzO, subF, subG, pickOf, frzE, frzC, frzL, frz0, frzH, Pg.freeze, List.foldl_nil, subOs, subEv, subV_succ, subM, subL, ldCells, objAt, ↓callT, callC, callV, callH, normArgs, normA, normC, normL, resL, res8_eq, res_succ, resM, shiftR, shift1, AV.cells, TK.cells, AV.definite, AV.leaf, AV.leafy, putCells, lay, Op.operands, List.getElem?_toArray, List.getElem?_cons_succ, List.getElem?_cons_zero, Option.bind_some, Option.getD_some, reduceCtorEq, Nat.reduceEqDiff, Nat.reduceAdd, List.nil_append, List.append_nil, List.cons_append, List.length_cons, List.length_nil, List.map_cons, List.map_nil, List.set_cons_zero, List.set_cons_succ, Nat.zero_add, ite_true, ite_false, Option.some.injEq, Prod.mk.injEq, List.all_cons, List.all_nil, Bool.and_self, and_self, exists_eq_left', pickOK_nil, List.length_map, cInt_dec, List.toList_toArray, cSl_dec, cAgg_dec, lOne_dec, lCons_dec, dec2_some, List.contains_nil, List.range'_zero, decL_str, C1by_ns, C1by_pre, C1by_r, C1by_H, optP_some, optV_some, optH_some, getD_str, List.getD_cons_zero, cutL, List.drop_zero, List.drop_succ_cons, List.take_succ_cons, List.take_zero, Nat.add_zero, Nat.sub_zero, Nat.le_refl, List.drop_nil, List.take_nil, Nat.zero_lt_succ, tk3, tk9, dz9, tk22, tk27, tz27, dz27, tk32, dz32, tk35, tz35, dz35, kChars, kWhole, kBlock, aReg, aPos, aCh, h0, h1k, h2k, hb3]
        exact ⟨⟨v1, v2⟩, hs, h1, ⟨r1, r2, r3⟩, by omega, by omega, by omega, by omega⟩
  | false =>
    have e : atR ls (p1, p2) (k, L) before n = ((0, [], []), (0, 0), false) := by
      unfold atR
      rw [if_neg (by simp [h0]), if_neg (by simp [h1k]), if_neg (by simp [h2k])]
    rw [e]
    simp (maxSteps := 4000000) only [↓wpA_H, ↓wpH_skip, ↓wpH_ret, ↓wpH_seq, ↓wpH_cond, ↓wpH_block, ↓wpH_region, ↓iselH_false, bselH_false, runH_nil, runH_cons, gw, gselH_plain, cselH_bool, ↓chk, justK, noW, ↓oneK, ↓pureK, ↓heapK, envOf, ↓thenA_normal, ↓blockA_normal, ↓stepEv, opnd, Pg.look, binK, intOp, Bool.false_eq_true, implies_true, true_and, and_true, valV, heapV, footV, binV, intV, ofV, ofLeaf, retA, resK, tupA, subA, subQ, ptrsE, frzO, subF, subG, pickOf, frzE, frzC, frzL, frz0, frzH, Pg.freeze, List.foldl_nil, subOs, subEv, subV_succ, subM, subL, ldCells, objAt, res_succ, resM, AV.cells, TK.cells, AV.definite, AV.leaf, AV.leafy, putCells, lay, buildL, List.getElem?_cons_succ, List.getElem?_cons_zero, Option.getD_some, reduceCtorEq, Nat.reduceEqDiff, Nat.reduceAdd, List.nil_append, List.append_nil, List.cons_append, List.length_cons, List.length_nil, List.map_nil, List.set_cons_zero, List.set_cons_succ, Nat.zero_add, ite_true, ite_false, Option.some.injEq, Option.isSome_some, AV.agg.injEq, List.all_cons, List.all_nil, Bool.and_self, and_self, exists_eq_left', pickOK_nil, List.length_map, List.contains_nil, getD_str, List.getD_cons_zero, cutL, List.drop_zero, List.drop_succ_cons, List.take_succ_cons, List.take_zero, Nat.add_zero, Nat.sub_zero, Nat.le_refl, List.drop_nil, List.take_nil, Nat.zero_lt_succ, tk3, tk9, dz9, tk22, tk27, tz27, dz27, tk32, dz32, tk35, tz35, dz35, kChars, kWhole, kBlock, aReg, aPos, aCh, h0, h1k, h2k]
    exact ⟨v1, v2⟩
def kAt : C1 := C1.by [.sl 1 [], .id, .ag [none, some 1], .id, .id] (lCons cStrs (lCons cPos2 (lCons cReg (lCons cBool (lOne (cInt .i64)))))) (fun d => small d.1 ∧ (1 ≤ d.2.2.2.2 ∧ d.2.2.2.2 ≤ 9999) ∧ fineR d.2.2.1 ∧ place d.1 d.2.1.1 d.2.1.2 = true ∧ (d.1.getD d.2.1.1.toNat []).length ≤ 1099511627775)
  (fun d => .tuple [aCh (atR d.1 d.2.1 d.2.2.1 d.2.2.2.1 d.2.2.2.2).1, aPos (atR d.1 d.2.1 d.2.2.1 d.2.2.2.1 d.2.2.2.2).2.1, .bool (atR d.1 d.2.1 d.2.2.1 d.2.2.2.1 d.2.2.2.2).2.2]) (fun _ => [])
theorem ok_at : C1OK Try.prog 41 kAt := C1OK.by (by kernel_rfl) (fun d h => calls_at d.1 d.2.1 d.2.2.1 d.2.2.2.1 d.2.2.2.2 h.1 h.2.1 h.2.2.1 h.2.2.2.1 h.2.2.2.2) (fun _ => rfl) (fun _ => rfl)
def kPMay : C1 := C1.by [.ag [none, some 1], .id] (lCons cReg (lOne (cInt .i64))) (fun d => few d.1.2) (fun d => .bool (mayR d.1 d.2)) (fun _ => [])
theorem ok_pmay : C1OK Try.prog 40 kPMay := C1OK.by (by kernel_rfl) (fun d h => calls_pmay d.1 d.2 h) (fun _ => rfl) (fun _ => rfl)
def kPClamp : C1 := C1.by [.sl 1 [], .id, .id] (lCons cStrs (lCons cPos2 (lOne cBool))) (fun d => small d.1) (fun d => aPos (clampP d.1 d.2.1 d.2.2)) (fun _ => [])
theorem ok_PClamp : C1OK Try.prog 32 kPClamp := C1OK.by (by kernel_rfl) (fun d h => calls_Clamp d.1 d.2.1 d.2.2 h) (fun _ => rfl) (fun _ => rfl)
theorem ok_PRClamp : C1OK Try.prog 17 kPClamp := C1OK.by (by kernel_rfl) (fun d h => calls_RClamp d.1 d.2.1 d.2.2 h) (fun _ => rfl) (fun _ => rfl)

theorem sum_ge (ls : Ls) (i : Nat) : 0 ≤ size ls ∧ ((ls.getD i []).length : Int) ≤ size ls ∧ (ls.length : Int) ≤ size ls := by
  unfold size
  induction ls generalizing i with
  | nil => simp
  | cons s r ih =>
    simp only [List.map_cons, List.sum_cons, List.length_cons]
    cases i with
    | zero => have := ih 0; simp only [List.getD_cons_zero]; omega
    | succ i => have := ih i; simp only [List.getD_cons_succ]; omega
theorem fine_may {r : Reg} {n : Int} (h : mayR r n = true) : (1 ≤ n ∧ n ≤ 9999) ∧ fineR r := by
  unfold mayR at h
  simp only [Bool.and_eq_true, decide_eq_true_eq] at h
  obtain ⟨⟨⟨⟨h1, h2⟩, h3⟩, h4⟩, _⟩ := h
  have : 4096 / n ≤ 4096 := Int.ediv_le_self _ (by decide)
  exact ⟨⟨h1, h2⟩, h3, by have := sum_ge r.2 0; omega, fun i => by have := sum_ge r.2 i; omega⟩

def putF (ls : Ls) (p : Int × Int) (r : Reg) (before : Bool) (n : Int) : Ch × (Int × Int) × Bool :=
  if (place ls p.1 p.2 && mayR r n && (atR ls p r before n).2.2) = true then ((atR ls p r before n).1, clampP (apply1 ls (atR ls p r before n).1).1 (atR ls p r before n).2.1 false, true)
  else ((0, [], []), (0, 0), false)

set_option maxRecDepth 20000 in
set_option maxHeartbeats 4000000 in
theorem calls_PDo (ls : Ls) (p : Int × Int) (r : Reg) (before : Bool) (n : Int) (hs : small ls) (hn : ls.length ≤ 1099511627) (hl : ∀ i, (ls.getD i []).length ≤ 1099511627775) (hr : few r.2)
    (hA : place ls p.1 p.2 = true → mayR r n = true → (atR ls p r before n).2.2 = true → small (apply1 ls (atR ls p r before n).1).1 ∧ (atR ls p r before n).1.2.1.length ≤ 1099511627 ∧ (atR ls p r before n).1.2.2.length ≤ 1099511627) :
    CallsR Try.prog 24 [.sl 1 (ls.map .str), aPos p, aReg r, .bool before, .int .i64 n] [] (.tuple [aCh (putF ls p r before n).1, aPos (putF ls p r before n).2.1, .bool (putF ls p r before n).2.2]) [] := by
  refine callsR_of (mrg := true) (dyn := []) (CtrOK.cons ok_CPlace (CtrOK.cons ok_pmay (CtrOK.cons ok_at (CtrOK.cons ok_CApply (CtrOK.cons ok_PClamp (CtrOK.nil _)))))) mixed Try.func24 rfl (by simp [Try.ntmps24]) (by kernel_rfl) ?_
  rw [show Try.f24.results.toList = [.cell 10 35, .cell 11 27, .tmp 12] from by kernel_rfl]
  cases hp : place ls p.1 p.2 with
  | false =>
    have e : putF ls p r before n = ((0, [], []), (0, 0), false) := by unfold putF; rw [if_neg (by simp [hp])]
    rw [e]
    obtain ⟨k, L⟩ := r
    obtain ⟨p1, p2⟩ := p
    simp (maxSteps := 4000000) only [↓wpA_H, ↓wpH_ret, ↓wpH_seq, ↓wpH_cond, ↓wpH_region, ↓iselH_true, bselH_false, runH_nil, runH_cons, gw, gselH_plain, gselH_if, kselH_1, cselH_bool, gkind, ↓chk, justK, noW, ↓oneK, ↓pureK, ↓heapK, envOf, ↓thenA_normal, ↓thenA_ret, ↓stepEv, opnd, Pg.look, dstOf, Bool.not_false, Bool.not_true, Bool.false_eq_true, Bool.true_eq_false, false_implies, implies_true, imp_self, true_and, and_true, pickC, pickV, unc, gof, mux, mergeK, condsL, valV, heapV, footV, mergeable, look_stripE, ofV, ofLeaf, sameK, retA, resK, tupA, subA, subQ, ptrsE, frzO, subF, subG, pickOf, frzE, frzC, frzL, frz0, frzH, Pg.freeze, List.foldl_nil, subOs, subEv, subV_succ, subM, subL, ldCells, objAt, ↓callT, callC, callV, callH, normArgs, normA, normC, normL, resL, res8_eq, res_succ, resM, shiftR, shift1, AV.cells, TK.cells, AV.definite, AV.leaf, AV.leafy, putCells, lay, buildL, Op.operands, Call.operands, Array.toList_append, List.getElem?_toArray, List.getElem?_cons_succ, List.getElem?_cons_zero, Option.bind_some, Option.getD_some, reduceCtorEq, Nat.reduceEqDiff, Nat.reduceAdd, List.nil_append, List.append_nil, List.cons_append, List.length_cons, List.length_nil, List.map_cons, List.map_nil, List.set_cons_zero, List.set_cons_succ, Nat.zero_add, ite_true, ite_false, Option.some.injEq, Option.isSome_some, AV.agg.injEq, Prod.mk.injEq, List.all_cons, List.all_nil, Bool.and_self, and_self, exists_eq_left', pickOK_nil, cInt_dec, List.toList_toArray, cSl_dec, cAgg_dec, lOne_dec, lCons_dec, dec2_some, List.contains_nil, List.range'_zero, decL_str, C1by_ns, C1by_pre, C1by_r, C1by_H, optP_some, optV_some, optH_some, List.getD_cons_zero, cutL, List.drop_zero, List.drop_succ_cons, List.take_succ_cons, List.take_zero, Nat.sub_zero, Nat.le_refl, List.drop_nil, List.take_nil, Nat.zero_lt_succ, tk27, tz27, dz27, tk32, dz32, tk35, tz35, dz35, kRPlace, kPMay, kAt, kCApply, kPClamp, aReg, aPos, aCh, hp]
  | true =>
  cases hm : mayR r n with
  | false =>
    have e : putF ls p r before n = ((0, [], []), (0, 0), false) := by unfold putF; rw [if_neg (by simp [hm])]
    rw [e]
    obtain ⟨k, L⟩ := r
    obtain ⟨p1, p2⟩ := p
    simp (maxSteps := 4000000) only [↓wpA_H, ↓wpH_ret, ↓wpH_seq, ↓wpH_cond, ↓wpH_region, ↓iselH_true, bselH_false, runH_nil, runH_cons, gw, gselH_plain, gselH_if, kselH_1, cselH_bool, gkind, ↓chk, justK, noW, ↓oneK, ↓pureK, ↓heapK, envOf, ↓thenA_normal, ↓thenA_ret, ↓stepEv, opnd, Pg.look, dstOf, Bool.not_false, Bool.not_true, Bool.false_eq_true, false_implies, implies_true, true_and, and_true, forall_const, pickC, pickV, unc, gof, mux, mergeK, condsL, valV, heapV, footV, mergeable, look_stripE, ofV, ofLeaf, sameK, retA, resK, tupA, subA, subQ, ptrsE, frzO, subF, subG, pickOf, frzE, frzC, frzL, frz0, frzH, Pg.freeze, List.foldl_nil, subOs, subEv, subV_succ, subM, subL, ldCells, objAt, ↓callT, callC, callV, callH, normArgs, normA, normC, normL, resL, res8_eq, res_succ, resM, shiftR, shift1, AV.cells, TK.cells, AV.definite, AV.leaf, AV.leafy, putCells, lay, buildL, Op.operands, Call.operands, Array.toList_append, List.getElem?_toArray, List.getElem?_cons_succ, List.getElem?_cons_zero, Option.bind_some, Option.getD_some, reduceCtorEq, Nat.reduceEqDiff, Nat.reduceAdd, List.nil_append, List.append_nil, List.cons_append, List.length_cons, List.length_nil, List.map_cons, List.map_nil, List.set_cons_zero, List.set_cons_succ, Nat.zero_add, ite_true, ite_false, Option.some.injEq, Option.isSome_some, AV.agg.injEq, Prod.mk.injEq, List.all_cons, List.all_nil, Bool.and_self, and_self, exists_eq_left', pickOK_nil, cInt_dec, List.toList_toArray, cSl_dec, cAgg_dec, lOne_dec, lCons_dec, dec2_some, List.contains_nil, List.range'_zero, decL_str, C1by_ns, C1by_pre, C1by_r, C1by_H, optP_some, optV_some, optH_some, List.getD_cons_zero, cutL, List.drop_zero, List.drop_succ_cons, List.take_succ_cons, List.take_zero, Nat.sub_zero, Nat.le_refl, List.drop_nil, List.take_nil, Nat.zero_lt_succ, tk27, tz27, dz27, tk32, dz32, tk35, tz35, dz35, kRPlace, kPMay, kAt, kCApply, kPClamp, aReg, aPos, aCh, hp, hm]
    exact hr
  | true =>
  obtain ⟨f1, f2⟩ := fine_may hm
  have hl1 := hl p.1.toNat
  cases ha : (atR ls p r before n).2.2 with
  | false =>
    have e : putF ls p r before n = ((0, [], []), (0, 0), false) := by unfold putF; rw [if_neg (by simp [ha])]
    rw [e]
    obtain ⟨k, L⟩ := r
    obtain ⟨p1, p2⟩ := p
    simp (maxSteps := 4000000) only [↓wpA_H, ↓wpH_skip, ↓wpH_ret, ↓wpH_seq, ↓wpH_cond, ↓wpH_region, ↓iselH_true, ↓iselH_false, bselH_false, runH_nil, runH_cons, gw, gselH_plain, gselH_if, kselH_1, cselH_bool, gkind, ↓chk, justK, noW, ↓oneK, ↓pureK, ↓heapK, envOf, ↓thenA_normal, ↓thenA_ret, ↓stepEv, opnd, Pg.look, dstOf, Bool.not_false, Bool.not_true, Bool.false_eq_true, false_implies, implies_true, true_and, and_true, forall_const, pickC, pickV, unc, gof, mux, mergeK, condsL, valV, heapV, footV, mergeable, look_stripE, ofV, ofLeaf, sameK, retA, resK, tupA, subA, subQ, ptrsE, frzO, subF, subG, pickOf, frzE, frzC, frzL, frz0, frzH, Pg.freeze, List.foldl_nil, subOs, subEv, subV_succ, subM, subL, ldCells, objAt, ↓callT, callC, callV, callH, normArgs, normA, normC, normL, resL, res8_eq, res_succ, resM, shiftR, shift1, AV.cells, TK.cells, AV.definite, AV.leaf, AV.leafy, putCells, lay, buildL, Op.operands, Call.operands, Array.toList_append, List.getElem?_toArray, List.getElem?_cons_succ, List.getElem?_cons_zero, Option.bind_some, Option.getD_some, reduceCtorEq, Nat.reduceEqDiff, Nat.reduceAdd, List.nil_append, List.append_nil, List.cons_append, List.length_cons, List.length_nil, List.map_cons, List.map_nil, List.set_cons_zero, List.set_cons_succ, Nat.zero_add, ite_true, ite_false, Option.some.injEq, Option.isSome_some, AV.agg.injEq, Prod.mk.injEq, List.all_cons, List.all_nil, Bool.and_self, and_self, exists_eq_left', pickOK_nil, cInt_dec, cBool_dec, List.toList_toArray, cSl_dec, cAgg_dec, lOne_dec, lCons_dec, dec2_some, List.contains_nil, List.range'_zero, decL_str, C1by_ns, C1by_pre, C1by_r, C1by_H, optP_some, optV_some, optH_some, List.getD_cons_zero, cutL, List.drop_zero, List.drop_succ_cons, List.take_succ_cons, List.take_zero, Nat.sub_zero, Nat.le_refl, List.drop_nil, List.take_nil, Nat.zero_lt_succ, tk27, tz27, dz27, tk32, dz32, tk35, tz35, dz35, kRPlace, kPMay, kAt, kCApply, kPClamp, aReg, aPos, aCh, hp, hm, ha]
    exact ⟨hr, hs, f1, f2, hl1⟩
  | true =>
    obtain ⟨a1, a2, a3⟩ := hA hp hm ha
    have e : putF ls p r before n = ((atR ls p r before n).1, clampP (apply1 ls (atR ls p r before n).1).1 (atR ls p r before n).2.1 false, true) := by unfold putF; rw [if_pos (by simp [hp, hm, ha])]
    rw [e]
    obtain ⟨k, L⟩ := r
    obtain ⟨p1, p2⟩ := p
    simp (maxSteps := 4000000) only [↓wpA_H, ↓wpH_skip, ↓wpH_ret, ↓wpH_seq, ↓wpH_cond, ↓wpH_region, ↓iselH_false, bselH_false, runH_nil, runH_cons, gw, gselH_plain, gselH_if, kselH_1, cselH_bool, gkind, ↓chk, justK, noW, ↓oneK, ↓pureK, ↓heapK, envOf, ↓thenA_normal, ↓stepEv, opnd, Pg.look, dstOf, Bool.not_false, Bool.not_true, Bool.false_eq_true, false_implies, implies_true, true_and, and_true, forall_const, pickC, pickV, unc, gof, mux, mergeK, condsL, valV, heapV, footV, mergeable, look_stripE, ofV, ofLeaf, sameK, retA, resK, tupA, subA, subQ, ptrsE, frzO, subF, subG, pickOf, frzE, frzC, frzL, frz0, frzH, Pg.freeze, List.foldl_nil, List.foldl_cons, subOs, subEv, subV_succ, subM, subL, ldCells, objAt, ↓callT, callC, callV, callH, normArgs, normA, normC, normL, normE, resL, res8_eq, res_succ, resM, shiftR, shift1, AV.cells, TK.cells, AV.definite, AV.leaf, AV.leafy, AV.pureLeaf, AV.pureB, putCells, lay, frzAt, Op.operands, Call.operands, Array.toList_append, List.getElem?_toArray, List.getElem?_cons_succ, List.getElem?_cons_zero, Option.bind_some, Option.getD_some, reduceCtorEq, Nat.reduceEqDiff, Nat.reduceAdd, List.nil_append, List.append_nil, List.cons_append, List.length_cons, List.length_nil, List.map_cons, List.map_nil, List.set_cons_zero, List.set_cons_succ, Nat.zero_add, ite_true, ite_false, Option.some.injEq, Option.isSome_some, Prod.mk.injEq, List.all_cons, List.all_nil, Bool.and_self, and_self, exists_eq_left', pickOK_nil, cInt_dec, cBool_dec, List.toList_toArray, rg1, cSl_dec, cAgg_dec, lOne_dec, lCons_dec, dec2_some, List.contains_nil, beq_self_eq_true, decL_nil, decL_cons, consO_some, List.range'_zero, Nat.reducePow, decL_str, C1by_ns, C1by_pre, C1by_r, C1by_H, optP_some, optV_some, optH_some, List.getD_cons_zero, cutL, List.drop_zero, List.drop_succ_cons, List.take_succ_cons, List.take_zero, Nat.sub_zero, Nat.reduceLeDiff, Nat.le_refl, Nat.one_mul, List.drop_nil, List.take_nil, Nat.zero_lt_succ, tk27, tz27, dz27, tk32, dz32, tk35, tz35, dz35, eb35, tk40, kRPlace, kPMay, kAt, kCApply, kPClamp, aReg, aPos, aCh, hp, hm, ha]
    exact ⟨hr, ⟨hs, f1, f2, hl1⟩, ⟨hn, fun x hx => by
      obtain rfl := List.mem_singleton.1 hx
      exact ⟨a2, a3⟩⟩, a1⟩
def kPDo : C1 := C1.by [.sl 1 [], .id, .ag [none, some 1], .id, .id] (lCons cStrs (lCons cPos2 (lCons cReg (lCons cBool (lOne (cInt .i64))))))
  (fun d => small d.1 ∧ d.1.length ≤ 1099511627 ∧ (∀ i, (d.1.getD i []).length ≤ 1099511627775) ∧ few d.2.2.1.2 ∧
    (place d.1 d.2.1.1 d.2.1.2 = true → mayR d.2.2.1 d.2.2.2.2 = true → (atR d.1 d.2.1 d.2.2.1 d.2.2.2.1 d.2.2.2.2).2.2 = true → small (apply1 d.1 (atR d.1 d.2.1 d.2.2.1 d.2.2.2.1 d.2.2.2.2).1).1 ∧ (atR d.1 d.2.1 d.2.2.1 d.2.2.2.1 d.2.2.2.2).1.2.1.length ≤ 1099511627 ∧ (atR d.1 d.2.1 d.2.2.1 d.2.2.2.1 d.2.2.2.2).1.2.2.length ≤ 1099511627))
  (fun d => .tuple [aCh (putF d.1 d.2.1 d.2.2.1 d.2.2.2.1 d.2.2.2.2).1, aPos (putF d.1 d.2.1 d.2.2.1 d.2.2.2.1 d.2.2.2.2).2.1, .bool (putF d.1 d.2.1 d.2.2.1 d.2.2.2.1 d.2.2.2.2).2.2]) (fun _ => [])
theorem ok_PDo : C1OK Try.prog 24 kPDo := C1OK.by (by kernel_rfl) (fun d h => calls_PDo d.1 d.2.1 d.2.2.1 d.2.2.2.1 d.2.2.2.2 h.1 h.2.1 h.2.2.1 h.2.2.2.1 h.2.2.2.2) (fun _ => rfl) (fun _ => rfl)
end Go.Pg
namespace Go.Pg
open Go Go.Proofs

theorem pex_1 : putF [[97, 98]] (0, 0) (0, [[120]]) false 1 = ((0, [[97, 98]], [[97, 120, 98]]), (0, 1), true) := by decide +kernel
theorem pex_2 : putF [[97, 98]] (0, 0) (1, [[32, 121]]) false 2 = ((1, [], [[32, 121], [32, 121]]), (1, 1), true) := by decide +kernel
theorem pex_3 : putF [[97, 98]] (0, 0) (0, []) false 1 = ((0, [], []), (0, 0), false) := by decide +kernel
theorem pex_a1 : atR [[97, 98]] (0, 0) (0, [[120]]) false 1 = ((0, [[97, 98]], [[97, 120, 98]]), (0, 1), true) := by decide +kernel
theorem pex_a2 : atR [[97, 98]] (0, 0) (1, [[32, 121]]) false 2 = ((1, [], [[32, 121], [32, 121]]), (1, 1), true) := by decide +kernel
theorem pex_p1 : apply1 [[97, 98]] (0, [[97, 98]], [[97, 120, 98]]) = ([[97, 120, 98]], true) := by decide +kernel
theorem pex_p2 : apply1 [[97, 98]] (1, [], [[32, 121], [32, 121]]) = ([[97, 98], [32, 121], [32, 121]], true) := by decide +kernel
theorem pex_m3 : mayR (0, []) 1 = false := by decide +kernel

theorem lens_ex (ls : Ls) (n b : Nat) (h : ls.length ≤ n ∧ ls.all (fun s => decide (s.length ≤ b)) = true) : ls.length ≤ n ∧ ∀ i, (ls.getD i []).length ≤ b := by
  refine ⟨h.1, fun i => ?_⟩
  rw [List.getD_eq_getElem?_getD]
  cases e : ls[i]? with
  | none => simp
  | some x =>
    have := List.all_eq_true.1 h.2 x (List.mem_of_getElem? e)
    simpa using this
theorem small_ex (ls : Ls) (h : ls.length ≤ 100 ∧ ls.all (fun s => decide (s.length ≤ 100)) = true) : small ls := by
  have := lens_ex ls 100 100 h
  exact ⟨by omega, fun i => by have := this.2 i; omega⟩
theorem few_ex (ls : Ls) (h : ls.length ≤ 100 ∧ ls.all (fun s => decide (s.length ≤ 100)) = true) : few ls := by
  have := lens_ex ls 100 100 h
  exact ⟨by omega, fun i => by have := this.2 i; omega⟩

set_option maxRecDepth 20000 in
set_option maxHeartbeats 4000000 in
theorem calls_pknown : CallsR Try.prog 22 [] [] (.bool true) [] := by
  refine callsR_of (mrg := false) (dyn := []) (CtrOK.cons ok_PDo (CtrOK.cons ok_Strings (CtrOK.nil _))) mixed Try.func22 rfl (by simp [Try.ntmps22]) (by kernel_rfl) ?_
  rw [show Try.f22.results.toList = [.tmp 0] from by kernel_rfl]
  simp (maxSteps := 4000000) only [↓wpA_H, ↓wpH_ret, ↓wpH_seq, ↓wpH_region, ↓iselH_true, bselH_false, runH_nil, runH_cons, ↓fixG, setG, gw, gselH_plain, gselH_if, kselH_2, gkind, ↓chk, justK, noW, ↓oneK, ↓pureK, ↓heapK, envOf, ↓thenA_normal, ↓stepEv, opnd, Pg.look, binK, intOp, cellsEq, leafEq, dstOf, Bool.and_true, Bool.not_false, Bool.not_true, Bool.false_eq_true, Bool.true_eq_false, false_implies, implies_true, true_and, and_true, pickC, pickV, unc, gof, mux, valV, heapV, footV, binV, intV, mergeable, ofV, ofLeaf, retA, resK, tupA, subA, subQ, ptrsE, frzO, subF, subG, pickOf, frzE, frzC, frz0, frzH, Pg.freeze, List.foldl_nil, List.foldl_cons, subOs, subEv, subV_succ, subM, slen, ldCells, objAt, ↓callT, callC, callV, callH, normArgs, normA, normC, normL, resL, res8_eq, res_succ, resM, shiftR, shift1, AV.cells, TK.cells, AV.definite, AV.leaf, AV.leafy, AV.pureLeaf, AV.pureB, putCells, lay, buildL, frzAt, List.getElem?_toArray, List.getElem?_cons_succ, List.getElem?_cons_zero, Option.bind_some, Option.getD_some, reduceCtorEq, Nat.reduceEqDiff, Nat.reduceAdd, List.nil_append, List.append_nil, List.cons_append, List.length_cons, List.length_nil, List.map_cons, List.map_nil, List.set_cons_zero, List.set_cons_succ, Nat.zero_add, ite_true, ite_false, Option.some.injEq, Option.isSome_some, AV.int.injEq, AV.agg.injEq, Prod.mk.injEq, List.all_cons, List.all_nil, Bool.and_self, and_self, exists_eq_left', pickOK_nil, cInt_dec, cBool_dec, rg1, cStr_dec, cSl_dec, cAgg_dec, lOne_dec, lCons_dec, dec2_some, List.contains_nil, beq_self_eq_true, decL_nil, decL_cons, consO_some, Int.cast_ofNat_Int, List.range'_zero, Nat.reducePow, C1by_ns, C1by_pre, C1by_r, C1by_H, optP_some, optV_some, optH_some, List.getD_cons_zero, cutL, List.drop_zero, List.drop_succ_cons, List.take_succ_cons, List.take_zero, Nat.add_zero, Nat.sub_zero, Nat.reduceLeDiff, Nat.le_refl, Nat.mul_one, List.drop_nil, List.take_nil, Nat.zero_lt_succ, tk3, eb9, tk22, tk27, tz27, dz27, eq27, tk32, tz32, tk35, tz35, dz35, kPDo, kStrings, aCh, aPos, pex_1, pex_2, pex_3]
  have s0 := small_ex [[97, 98]] (by decide)
  have l0 := (lens_ex [[97, 98]] 100 100 (by decide)).2
  have l1 : ∀ i, ([[97, 98]].getD i [] : List UInt8).length ≤ 1099511627775 := fun i => by have := l0 i; omega
  rw [pex_a1, pex_a2, pex_m3]
  simp only [pex_p1, pex_p2]
  exact ⟨⟨s0, l1, few_ex _ (by decide), fun _ _ _ => ⟨small_ex _ (by decide), by decide, by decide⟩⟩, ⟨s0, l1, few_ex _ (by decide), fun _ _ _ => ⟨small_ex _ (by decide), by decide, by decide⟩⟩, s0, l1, few_ex _ (by decide), fun _ h => by cases h⟩
def kPKnown : C1 := C1.by [] lNil (fun _ => True) (fun _ => .bool true) (fun _ => [])
theorem ok_pknown : C1OK Try.prog 22 kPKnown := C1OK.by (by kernel_rfl) (fun _ _ => calls_pknown) (fun _ => rfl) (fun _ => rfl)

set_option maxRecDepth 20000 in
set_option maxHeartbeats 4000000 in
theorem calls_RCut (ls : Ls) (r : Rg) (hs : small ls) :
    CallsR Try.prog 23 [.sl 1 (ls.map .str), aRg r] [] (.tuple [aCh (cut ls r).1, .bool (cut ls r).2]) [] := by
  refine callsR_of (mrg := true) (dyn := []) (CtrOK.cons ok_RValid (CtrOK.cons ok_RCols (CtrOK.cons ok_over (CtrOK.cons ok_cnone (CtrOK.nil _))))) mixed Try.func23 rfl (by simp [Try.ntmps23]) (by kernel_rfl) ?_
  rw [show Try.f23.results.toList = [.cell 4 35, .tmp 5] from by kernel_rfl]
  cases hv : valid ls r with
  | false =>
    simp (maxSteps := 4000000) only [↓wpA_H, ↓wpH_ret, ↓wpH_seq, ↓wpH_cond, ↓wpH_region, ↓iselH_true, bselH_false, runH_nil, runH_cons, gw, gselH_plain, cselH_bool, ↓chk, justK, noW, ↓oneK, ↓pureK, ↓heapK, envOf, ↓thenA_normal, ↓thenA_ret, ↓stepEv, opnd, Pg.look, Bool.not_false, Bool.false_eq_true, false_implies, implies_true, true_and, and_true, valV, heapV, footV, ofV, ofLeaf, retA, resK, tupA, subA, subQ, ptrsE, frzO, subF, subG, pickOf, frzE, frzC, frzL, frz0, frzH, Pg.freeze, List.foldl_nil, subOs, subEv, subV_succ, subM, subL, ldCells, objAt, ↓callT, callC, callV, callH, normArgs, normA, normC, resL, res8_eq, res_succ, resM, shiftR, shift1, AV.cells, TK.cells, AV.definite, AV.leaf, AV.leafy, putCells, lay, List.getElem?_cons_succ, List.getElem?_cons_zero, Option.getD_some, reduceCtorEq, Nat.reduceEqDiff, Nat.reduceAdd, List.nil_append, List.append_nil, List.cons_append, List.length_cons, List.length_nil, List.map_cons, List.map_nil, List.set_cons_zero, List.set_cons_succ, Nat.zero_add, ite_true, ite_false, Option.some.injEq, Prod.mk.injEq, List.all_cons, List.all_nil, Bool.and_self, and_self, exists_eq_left', pickOK_nil, cInt_dec, cSl_dec, cAgg_dec, lNil_dec, lOne_dec, lCons_dec, dec2_some, List.contains_nil, List.range'_zero, decL_str, C1by_ns, C1by_pre, C1by_r, C1by_H, optP_some, optV_some, optH_some, List.getD_cons_zero, cutL, List.drop_zero, List.drop_succ_cons, List.take_succ_cons, List.take_zero, Nat.sub_zero, Nat.le_refl, List.drop_nil, List.take_nil, Nat.zero_lt_succ, tk29, dz29, tk35, tz35, dz35, kValid, kRCols, kROv, kCNone, aCh, aRg, hv, cut]
  | true =>
    obtain ⟨v1, v2, v3⟩ := valid_line hv
    have hl := hs.1
    have hv' := hv
    obtain ⟨k, f1, f2, t1, t2⟩ := r
    simp only at v1 v2 v3
    have w1 : IntKind.i64.wrap (IntKind.i64.wrap (t1 - f1) + 1) = t1 - f1 + 1 := by rw [wrap64 (n := t1 - f1) (by omega) (by omega), wrap64 (by omega) (by omega)]
    have hcut : cut ls (k, f1, f2, t1, t2) = ((f1, cutL ls f1.toNat (t1 + 1).toNat, if (k == 0) = true then [(ls.getD f1.toNat []).take f2.toNat ++ (ls.getD t1.toNat []).drop t2.toNat]
      else if (k == 2) = true then eachL f1 t1 (cutLine ls (k, f1, f2, t1, t2))
      else if (t1 - f1 + 1 == (ls.length : Int)) = true then [[]] else []), true) := if_pos hv
    rw [hcut]
    cases h0 : k == 0 with
    | true =>
      simp only [valid, h0, if_true, Bool.and_eq_true] at hv'
      obtain ⟨_, ⟨b1, b2⟩, _⟩ := hv'
      rw [place_iff] at b1 b2
      have c1 := hs.2 f1.toNat
      have c2 := hs.2 t1.toNat
      simp (maxSteps := 4000000) only [↓wpA_H, ↓wpH_skip, ↓wpH_ret, ↓wpH_seq, ↓wpH_cond, ↓wpH_block, ↓wpH_region, ↓iselH_true, ↓iselH_false, bselH_false, runH_nil, runH_cons, gw, gselH_plain, cselH_bool, ↓chk, justK, noW, ↓oneK, ↓pureK, ↓heapK, envOf, ↓thenA_normal, ↓blockA_normal, ↓stepEv, opnd, Pg.look, binK, intOp, strOp, Bool.not_true, Bool.false_eq_true, false_implies, implies_true, true_and, and_true, valV, heapV, footV, binV, intV, strV, cutV, ofV, ofLeaf, retA, resK, tupA, subA, subQ, ptrsE, frzO, subF, subG, pickOf, frzE, frzC, frzL, frz0, frzH, Pg.freeze, List.foldl_nil, List.foldl_cons, subOs, subEv, subV_succ, subM, subL, ldCells, objAt, sliceS, ↓callT, callC, callV, callH, normArgs, normA, normC, resL, res8_eq, res_succ, resM, shiftR, shift1, AV.cells, TK.cells, AV.definite, AV.leaf, AV.leafy, AV.pureLeaf, AV.pureB, putCells, lay, frzAt, List.getElem?_cons_succ, List.getElem?_cons_zero, Option.map_some, Option.map_none, Option.getD_some, reduceCtorEq, Nat.reduceEqDiff, Nat.reduceAdd, List.nil_append, List.append_nil, List.cons_append, List.length_cons, List.length_nil, List.map_cons, List.map_nil, List.set_cons_zero, List.set_cons_succ, Nat.zero_add, ite_true, ite_false, Option.some.injEq, Option.isSome_some, Prod.mk.injEq, List.all_cons, List.all_nil, Bool.and_self, and_self, exists_eq_left', pickOK_nil, List.length_map, cInt_dec, rg1, cStr_dec, cSl_dec, cAgg_dec, lOne_dec, lCons_dec, dec2_some, List.contains_nil, beq_self_eq_true, decL_nil, decL_cons, consO_some, List.range'_zero, Nat.reducePow, decL_str, C1by_ns, C1by_pre, C1by_r, C1by_H, optP_some, optV_some, optH_some, getD_str, List.getD_cons_zero, cutL, List.drop_zero, List.drop_succ_cons, List.take_succ_cons, List.take_zero, Nat.add_zero, Nat.sub_zero, Nat.reduceLeDiff, Nat.le_refl, Nat.mul_one, List.drop_nil, List.take_nil, Nat.zero_lt_succ, tk3, tk9, dz9, eb9, tk22, tk27, tk29, dz29, tk35, tz35, dz35, kValid, kRCols, kROv, kCNone, aCh, aRg, hv, h0]
      exact ⟨⟨by omega, by omega⟩, ⟨by omega, by omega⟩, ⟨by omega, by omega⟩, ⟨by omega, by omega⟩, by rw [List.length_take, List.length_drop]; omega, v1, by omega, v3, hl⟩
    | false =>
    cases h1 : k == 1 with
    | true =>
      have h2 : (k == 2) = false := by rw [beq_iff_eq] at h1; subst h1; rfl
      cases h3 : (t1 - f1 + 1 == (ls.length : Int)) with
      | true =>
        simp (maxSteps := 4000000) only [↓wpA_H, ↓wpH_skip, ↓wpH_ret, ↓wpH_seq, ↓wpH_cond, ↓wpH_block, ↓wpH_region, ↓iselH_true, ↓iselH_false, bselH_false, runH_nil, runH_cons, gw, gselH_plain, cselH_bool, ↓chk, justK, noW, ↓oneK, ↓pureK, ↓heapK, envOf, ↓thenA_normal, ↓blockA_normal, ↓stepEv, opnd, Pg.look, binK, intOp, Bool.not_true, Bool.false_eq_true, false_implies, implies_true, true_and, and_true, valV, heapV, footV, binV, intV, ofV, ofLeaf, retA, resK, tupA, subA, subQ, ptrsE, frzO, subF, subG, pickOf, frzE, frzC, frzL, frz0, frzH, Pg.freeze, List.foldl_nil, List.foldl_cons, subOs, subEv, subV_succ, subM, subL, slen, ldCells, objAt, ↓callT, callC, callV, callH, normArgs, normA, normC, resL, res8_eq, res_succ, resM, shiftR, shift1, AV.cells, TK.cells, AV.definite, AV.leaf, AV.leafy, AV.pureLeaf, AV.pureB, putCells, lay, frzAt, List.getElem?_cons_succ, List.getElem?_cons_zero, Option.getD_some, reduceCtorEq, Nat.reduceEqDiff, Nat.reduceAdd, List.nil_append, List.append_nil, List.cons_append, List.length_cons, List.length_nil, List.map_cons, List.map_nil, List.set_cons_zero, List.set_cons_succ, Nat.zero_add, ite_true, ite_false, Option.some.injEq, Option.isSome_some, AV.int.injEq, Prod.mk.injEq, List.all_cons, List.all_nil, Bool.and_self, and_self, exists_eq_left', pickOK_nil, List.length_map, cInt_dec, rg1, cStr_dec, cSl_dec, cAgg_dec, lOne_dec, lCons_dec, dec2_some, List.contains_nil, beq_self_eq_true, decL_nil, decL_cons, consO_some, List.range'_zero, Nat.reducePow, decL_str, C1by_ns, C1by_pre, C1by_r, C1by_H, optP_some, optV_some, optH_some, List.getD_cons_zero, cutL, List.drop_zero, List.drop_succ_cons, List.take_succ_cons, List.take_zero, Nat.add_zero, Nat.sub_zero, Nat.reduceLeDiff, Nat.le_refl, Nat.mul_one, List.drop_nil, List.take_nil, Nat.zero_lt_succ, tk3, eb9, tk22, tk27, tk29, dz29, tk35, tz35, dz35, kValid, kRCols, kROv, kCNone, aCh, aRg, hv, h0, h1, h2, h3, w1]
        exact ⟨v1, by omega, v3, hl⟩
      | false =>
        simp (maxSteps := 4000000) only [↓wpA_H, ↓wpH_skip, ↓wpH_ret, ↓wpH_seq, ↓wpH_cond, ↓wpH_block, ↓wpH_region, ↓iselH_true, ↓iselH_false, bselH_false, runH_nil, runH_cons, gw, gselH_plain, cselH_bool, ↓chk, justK, noW, ↓oneK, ↓pureK, ↓heapK, envOf, ↓thenA_normal, ↓blockA_normal, ↓stepEv, opnd, Pg.look, binK, intOp, Bool.not_true, Bool.false_eq_true, false_implies, implies_true, true_and, and_true, valV, heapV, footV, binV, intV, ofV, ofLeaf, retA, resK, tupA, subA, subQ, ptrsE, frzO, subF, subG, pickOf, frzE, frzC, frzL, frz0, frzH, Pg.freeze, List.foldl_nil, subOs, subEv, subV_succ, subM, subL, slen, ldCells, objAt, ↓callT, callC, callV, callH, normArgs, normA, normC, resL, res8_eq, res_succ, resM, shiftR, shift1, AV.cells, TK.cells, AV.definite, AV.leaf, AV.leafy, putCells, lay, List.getElem?_cons_succ, List.getElem?_cons_zero, Option.getD_some, reduceCtorEq, Nat.reduceEqDiff, Nat.reduceAdd, List.nil_append, List.append_nil, List.cons_append, List.length_cons, List.length_nil, List.map_cons, List.map_nil, List.set_cons_zero, List.set_cons_succ, Nat.zero_add, ite_true, ite_false, Option.some.injEq, AV.int.injEq, Prod.mk.injEq, List.all_cons, List.all_nil, Bool.and_self, and_self, exists_eq_left', pickOK_nil, List.length_map, cInt_dec, cSl_dec, cAgg_dec, lOne_dec, lCons_dec, dec2_some, List.contains_nil, decL_nil, List.range'_zero, decL_str, C1by_ns, C1by_pre, C1by_r, C1by_H, optP_some, optV_some, optH_some, List.getD_cons_zero, cutL, List.drop_zero, List.drop_succ_cons, List.take_succ_cons, List.take_zero, Nat.add_zero, Nat.sub_zero, Nat.le_refl, List.drop_nil, List.take_nil, Nat.zero_lt_succ, tk3, tk22, tk27, tk29, dz29, tk35, tz35, dz35, kValid, kRCols, kROv, kCNone, aCh, aRg, hv, h0, h1, h2, h3, w1]
        exact ⟨v1, by omega, v3, hl⟩
    | false =>
      have h2 : (k == 2) = true := by
        simp only [valid, h0, h1, Bool.false_eq_true, if_false] at hv'
        cases h : k == 2 with
        | true => rfl
        | false => rw [h] at hv'; simp at hv'
      have hb : 0 ≤ f2 ∧ f2 ≤ t2 := by
        simp only [valid, h0, h1, h2, Bool.false_eq_true, if_false, if_true, Bool.and_eq_true, decide_eq_true_eq] at hv'
        exact hv'.2
      have hcb : ∀ n i, cols n (k, f1, f2, t1, t2) i = rcols n (k, f1, f2, t1, t2) := fun n i => cols_block (by simpa using h2) hb.1 hb.2
      simp (maxSteps := 4000000) only [↓wpA_H, ↓wpH_skip, ↓wpH_seq, ↓wpH_cond, ↓wpH_block, ↓wpH_loop, ↓wpH_region, ↓iselH_false, bselH_false, runH_nil, runH_cons, gw, gselH_plain, cselH_bool, ↓chk, justK, noW, ↓oneK, ↓pureK, ↓heapK, envOf, ↓thenA_normal, ↓stepEv, opnd, Pg.look, binK, intOp, Bool.not_true, Bool.false_eq_true, false_implies, implies_true, true_and, and_true, valV, heapV, footV, binV, intV, ofV, ofLeaf, Pg.freeze, List.foldl_nil, ldCells, objAt, ↓callT, callC, callV, callH, normArgs, normA, normC, resL, res8_eq, res_succ, resM, shiftR, shift1, AV.cells, TK.cells, AV.definite, List.getElem?_cons_succ, List.getElem?_cons_zero, Option.getD_some, reduceCtorEq, Nat.reduceEqDiff, Nat.reduceAdd, List.nil_append, List.append_nil, List.cons_append, List.length_cons, List.length_nil, List.map_cons, List.map_nil, Nat.zero_add, ite_true, ite_false, Option.some.injEq, Prod.mk.injEq, and_self, exists_eq_left', cInt_dec, cSl_dec, cAgg_dec, lOne_dec, lCons_dec, dec2_some, List.contains_nil, List.range'_zero, decL_str, C1by_ns, C1by_pre, C1by_r, C1by_H, optP_some, optV_some, optH_some, List.getD_cons_zero, cutL, List.drop_zero, List.take_succ_cons, Nat.add_zero, Nat.sub_zero, Nat.le_refl, List.take_nil, Nat.zero_lt_succ, tk3, tk27, tk29, dz29, tz35, kValid, kRCols, kROv, kCNone, aCh, aRg, hv, h0, h1]
      refine loopH_intro (α := Nat) (fun i => ([(0, .sl 1 (ls.map .str)), (3, .ptr 0 5 1 0 0), (4, .ptr 1 3 1 0 0), (6, .own 2 1 i), (7, .int .i64 (f1 + i))], [.arr 29 5 [.agg [.int .i64 k, .int .i64 f1, .int .i64 f2, .int .i64 t1, .int .i64 t2]], .arr 35 3 [.agg [.int .i64 0, .nls, .nls]], .arr 9 1 (((List.range i).map fun j : Nat => cutLine ls (k, f1, f2, t1, t2) (f1 + j)).map .str)])) (fun i => f1 + i ≤ t1 + 1) (fun i => (t1 + 1 - f1).toNat - i) 0 (by omega) ?_ ?_
      · simp (maxSteps := 4000000) only [Pg.look, true_and, and_true, subA, subQ, ptrsE, pairsO, frzO, subF, subG, pickOf, assocN, pairsE, pairsC, pairsL, pairs0, frzE, frzC, frzL, frz0, frzH, Pg.freeze, List.foldl_nil, subOs, subO, subEv, subV_succ, subM, List.getElem?_cons_succ, List.getElem?_cons_zero, reduceCtorEq, Nat.reduceEqDiff, Nat.reduceAdd, List.nil_append, List.append_nil, List.cons_append, List.map_nil, Nat.zero_add, ite_true, ite_false, and_self, List.range_zero, Int.cast_ofNat_Int, Nat.lt_irrefl, Nat.not_lt_zero]
        exact ⟨rfl, ⟨subX_eq rfl rfl, subX_eq rfl rfl⟩, by omega⟩
      intro i hi
      have hrl : (List.range i).length = i := List.length_range
      have hmap : List.map (fun j : Nat => cutLine ls (k, f1, f2, t1, t2) (f1 + j)) (List.range (i + 1)) = List.map (fun j : Nat => cutLine ls (k, f1, f2, t1, t2) (f1 + j)) (List.range i) ++ [cutLine ls (k, f1, f2, t1, t2) (f1 + i)] := by rw [List.range_succ]; simp
      by_cases hlt : f1 + i ≤ t1
      · have hct : decide (f1 + (i : Int) ≤ t1) = true := decide_eq_true hlt
        obtain ⟨a1, a2, a3, a4, a5⟩ := cols_ok hv (f1 + i) (by show f1 ≤ _; omega) hlt
        have hl2 := hs.2 (f1 + (i : Int)).toNat
        have w3 : IntKind.i64.wrap (f1 + (i : Int) + 1) = f1 + ((i + 1 : Nat) : Int) := by rw [wrap64 (by omega) (by omega)]; omega
        rw [hcb] at a3 a4 a5
        simp (maxSteps := 4000000) only [↓wpA_H, ↓wpH_skip, ↓wpH_seq, ↓wpH_cond, ↓wpH_block, ↓wpH_region, ↓iselH_true, bselH_false, runH_nil, runH_cons, gw, gselH_plain, cselH_bool, ↓chk, justK, noW, ↓oneK, ↓pureK, ↓heapK, ↓thenA_normal, ↓blockA_normal, ↓stepEv, opnd, Pg.look, binK, intOp, strOp, Bool.false_eq_true, false_implies, implies_true, true_and, and_true, valV, heapV, footV, binV, intV, strV, cutV, ofV, ofLeaf, subA, subQ, ptrsE, pairsO, frzO, subF, subG, pickOf, assocN, pairsE, pairsC, pairsL, pairs0, frzE, frzC, frzL, frz0, frzH, Pg.freeze, List.foldl_nil, subOs, subO, subEv, subV_succ, subM, srcV, srcE, appK, ldCells, objAt, sliceS, ↓callT, callC, callV, callH, normArgs, normA, normC, resL, res8_eq, res_succ, resM, shiftR, shift1, AV.cells, TK.cells, AV.definite, AV.leaf, AV.leafy, List.getElem?_cons_succ, List.getElem?_cons_zero, Option.map_some, Option.map_none, Option.getD_some, reduceCtorEq, Nat.reduceEqDiff, Nat.reduceAdd, List.nil_append, List.append_nil, List.cons_append, List.length_cons, List.length_nil, List.map_cons, List.map_nil, List.set_cons_zero, List.set_cons_succ, Nat.zero_add, ite_true, ite_false, Option.some.injEq, Option.isSome_some, Prod.mk.injEq, List.all_cons, List.all_nil, Bool.and_self, and_self, exists_eq_left', List.length_map, cInt_dec, rg1, cStr_dec, cAgg_dec, lOne_dec, lCons_dec, dec2_some, app1_str, List.contains_nil, beq_self_eq_true, List.range'_zero, Nat.reducePow, C1by_ns, C1by_pre, C1by_r, C1by_H, optP_some, optV_some, optH_some, getD_str, List.getD_cons_zero, cutL, List.drop_zero, List.take_succ_cons, Nat.add_zero, Nat.sub_zero, Nat.reduceLeDiff, Nat.le_refl, Nat.lt_irrefl, Nat.mul_one, List.take_nil, Nat.not_lt_zero, Nat.zero_lt_succ, tk3, tk9, dz9, eb9, tk22, tk27, tk29, dz29, kValid, kRCols, kROv, kCNone, aCh, w3, hct, hrl]
        have hcl : cutLine ls (k, f1, f2, t1, t2) (f1 + i) = (ls.getD (f1 + (i : Int)).toNat []).take (rcols (ls.getD (f1 + (i : Int)).toNat []).length (k, f1, f2, t1, t2)).1.toNat ++ (ls.getD (f1 + (i : Int)).toNat []).drop (rcols (ls.getD (f1 + (i : Int)).toNat []).length (k, f1, f2, t1, t2)).2.toNat := by
          unfold cutLine
          rw [hcb]
        exact ⟨⟨by omega, by omega⟩, ⟨by omega, by omega⟩, ⟨by omega, by omega⟩, ⟨by omega, by omega⟩, ⟨by omega, by omega⟩, ⟨by omega, by omega⟩, by rw [List.length_take, List.length_drop]; omega, ⟨by decide, by omega⟩, i + 1, by omega, by omega, rfl, ⟨subX_eq rfl rfl, subX_eq rfl rfl, subX_eq (by rw [hmap, hcl]) (pureB_strs _)⟩, rfl, rfl⟩
      · have hcf : decide (f1 + (i : Int) ≤ t1) = false := decide_eq_false hlt
        have hn : (t1 + 1 - f1).toNat = i := by omega
        simp (maxSteps := 4000000) only [↓wpA_H, ↓wpH_ret, ↓wpH_exit, ↓wpH_seq, ↓wpH_cond, ↓wpH_region, ↓iselH_false, bselH_false, runH_nil, runH_cons, gw, gselH_plain, cselH_bool, ↓chk, justK, noW, ↓oneK, ↓pureK, ↓heapK, ↓thenA_normal, ↓thenA_exit, ↓blockA_normal, ↓blockA_exit, ↓stepEv, opnd, Pg.look, binK, intOp, Bool.false_eq_true, false_implies, implies_true, true_and, and_true, valV, heapV, footV, binV, intV, retA, resK, tupA, subA, subQ, ptrsE, frzO, subF, subG, pickOf, frzE, frzC, frzL, frz0, frzH, Pg.freeze, List.foldl_nil, List.foldl_cons, subOs, subEv, subV_succ, subM, subL, ldCells, objAt, ↓callT, callC, callV, callH, normArgs, normA, normC, resL, res8_eq, res_succ, resM, shiftR, shift1, AV.cells, TK.cells, AV.leaf, AV.leafy, putCells, lay, frzAt, List.getElem?_cons_succ, List.getElem?_cons_zero, Option.getD_some, reduceCtorEq, Nat.reduceEqDiff, Nat.reduceAdd, List.nil_append, List.append_nil, List.cons_append, List.length_cons, List.length_nil, List.map_cons, List.map_nil, List.set_cons_zero, List.set_cons_succ, Nat.zero_add, ite_true, ite_false, Option.some.injEq, Prod.mk.injEq, List.all_cons, List.all_nil, Bool.and_self, and_self, exists_eq_left', pickOK_nil, List.length_map, cInt_dec, cSl_dec, lOne_dec, lCons_dec, dec2_some, pureB_strs, List.contains_nil, List.range'_zero, decL_str, C1by_ns, C1by_pre, C1by_r, C1by_H, optP_some, optV_some, optH_some, List.getD_cons_zero, cutL, List.drop_zero, List.drop_succ_cons, List.take_succ_cons, List.take_zero, Nat.add_zero, Nat.sub_zero, Nat.le_refl, List.drop_nil, List.take_nil, Nat.zero_lt_succ, tk3, tk27, tk29, dz29, tk35, dz35, kValid, kRCols, kROv, kCNone, aCh, h2, hcf, hrl, eachL, hn]
        exact ⟨v1, by omega, v3, hl⟩
def kRCut : C1 := C1.by [.sl 1 [], .id] (lCons cStrs (lOne cRg)) (fun d => small d.1) (fun d => .tuple [aCh (cut d.1 d.2).1, .bool (cut d.1 d.2).2]) (fun _ => [])
theorem ok_RCut : C1OK Try.prog 23 kRCut := C1OK.by (by kernel_rfl) (fun d h => calls_RCut d.1 d.2 h) (fun _ => rfl) (fun _ => rfl)
end Go.Pg
