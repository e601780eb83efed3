/- A line break parts a line, and nothing but what was typed is taken away again. -/
import Derived.Test.YtkjfcpdancjhmaaPgFs20
import Derived.Test.YtkjfcpdancjhmaaPgFs17
namespace Go.Pg
open Go Go.Proofs

theorem typ_col0 (ls : Ls) (x : Int) (f : Int × Int) : typ ls (x, 0) f 1 8 = nothing := by
  unfold typ
  dsimp only
  split
  · rw [if_neg (by decide), if_neg (by decide), if_neg ?_]
    intro h
    simp at h
  · rfl

theorem set13 (l : List UInt8) (i : Nat) : (ofBytes l).set i (.int .u8 13) = ofBytes (l.set i 13) := set_ofBytes l i 13

theorem fill13 (k i : Nat) (h : i < k) : (List.replicate i (13 : UInt8) ++ List.replicate (k - i) 0).set i 13 = List.replicate (i + 1) 13 ++ List.replicate (k - (i + 1)) 0 := by
  have e : k - i = (k - (i + 1)) + 1 := by omega
  have hl : (List.replicate i (13 : UInt8)).length = i := List.length_replicate
  rw [List.set_append_right _ _ (by omega), hl, Nat.sub_self, e, List.replicate_succ, List.set_cons_zero, List.replicate_succ']
  simp

/-- What breaks come to. -/
theorem breaks (ls : Ls) (p1 p2 : Int) (k : Nat) (hp : place ls p1 p2 = true) : ∃ N : Ls, ∃ q : Int × Int, typedL ls (p1, p2) (p1, p2) (List.replicate k 13) = (N, q, true) ∧ N.length = ls.length + k ∧
    typ N q (p1, p2) 1 8 = nothing ∧ (k = 0 → N = ls ∧ q = (p1, p2)) ∧ (0 < k → q = (p1 + k, 0) ∧ N.getD p1.toNat [] = (ls.getD p1.toNat []).take p2.toNat ∧ N.getD (p1.toNat + k) [] = (ls.getD p1.toNat []).drop p2.toNat) := by
  obtain ⟨a1, a2, a3, a4⟩ := (place_iff ..).1 hp
  cases k with
  | zero => exact ⟨ls, (p1, p2), rfl, rfl, typ_none ls p1 p2 1 8 (by decide) (by decide), fun _ => ⟨rfl, rfl⟩, fun h => absurd h (by omega)⟩
  | succ n =>
    refine ⟨_, _, typedL_breaks (p1, p2) n ls p1 p2 hp, ?_, typ_col0 _ _ _, fun h => absurd h (by omega), fun _ => ⟨rfl, ?_, ?_⟩⟩
    · simp only [List.length_append, List.length_take, List.length_cons, List.length_replicate, List.length_drop]
      omega
    · have ht : (ls.take p1.toNat).length = p1.toNat := by rw [List.length_take]; omega
      rw [List.append_assoc, List.getD_eq_getElem?_getD, List.getElem?_append_right (by omega), ht]
      simp
    · have ht : (ls.take p1.toNat).length = p1.toNat := by rw [List.length_take]; omega
      have hl : (ls.take p1.toNat ++ (ls.getD p1.toNat []).take p2.toNat :: List.replicate n []).length = p1.toNat + (n + 1) := by simp only [List.length_append, ht, List.length_cons, List.length_replicate]
      rw [List.getD_eq_getElem?_getD, List.getElem?_append_right (by omega), hl]
      simp

set_option maxRecDepth 20000 in
set_option maxHeartbeats 4000000 in
theorem calls_InsertBreaks (ls : Ls) (a b : Int) (n : UInt8) (hs : ∀ i, (ls.getD i []).length ≤ 140737488355328) (ha : 0 ≤ a ∧ a < 65536) (hb : 0 ≤ b ∧ b < 65536) :
    CallsR Try.prog 7 [.sl 1 (ls.map .str), .int .u16 a, .int .u16 b, .int .u8 n.toNat] [] (.bool true) [] := by
  refine callsR_of (mrg := true) (dyn := []) (CtrOK.cons ok_known (CtrOK.cons ok_Text (CtrOK.cons ok_SPlace (CtrOK.cons ok_typed (CtrOK.cons ok_Type (CtrOK.nil _)))))) mixed Try.func7 rfl (by simp [Try.ntmps7]) (by kernel_rfl) ?_
  rw [show Try.f7.results.toList = [.tmp 8] from by kernel_rfl]
  cases ht : text ls with
  | false =>
    simp (maxSteps := 4000000) only [↓wpA_H, ↓wpH_skip, ↓wpH_ret, ↓wpH_seq, ↓wpH_cond, ↓wpH_region, ↓iselH_true, ↓iselH_false, bselH_false, runH_nil, runH_cons, gw, gselH_plain, cselH_bool, ↓chk, justK, ↓oneK, ↓pureK, envOf, ↓thenA_normal, ↓thenA_ret, ↓stepEv, opnd, Pg.look, Bool.not_false, Bool.not_true, Bool.false_eq_true, false_implies, implies_true, imp_self, true_and, and_true, valV, heapV, footV, ofV, ofLeaf, retA, resK, tupA, subA, subF, subG, pickOf, frzE, frzC, frz0, frzH, Pg.freeze, List.foldl_nil, subOs, subEv, subV, objAt, ↓callT, callC, callV, callH, normArgs, normA, normC, resL, res, shiftR, shift1, List.getElem?_nil, reduceCtorEq, Nat.reduceEqDiff, Nat.reduceAdd, List.nil_append, List.append_nil, List.length_nil, List.map_cons, List.map_nil, Nat.zero_add, ite_true, ite_false, Prod.mk.injEq, and_self, pickOK_nil, cSl_dec, lNil_dec, lOne_dec, List.contains_nil, List.range'_zero, decL_str, C1by_ns, C1by_pre, C1by_r, C1by_H, optP_some, optV_some, optH_some, kKnown, kText, ht]
    exact hs
  | true =>
    have hft := fits_text ht
    obtain ⟨hl0, hl1, hl2⟩ := few_of_text ht
    have hsm : small ls := fits_small hft (by omega) (by omega)
    have hp := splace_place ls a b hl0 hb.1
    cases hpp : splace ls a b with | mk p1 p2
    rw [hpp] at hp
    simp only at hp
    obtain ⟨q1, q2, q3, q4⟩ := (place_iff ..).1 hp
    have hlen := hl2 p1.toNat
    obtain ⟨k, hw5, hk5⟩ : ∃ k : Nat, IntKind.i64.wrap ((n.toNat : Int).tmod 5) = k ∧ k < 5 := by
      refine ⟨n.toNat % 5, ?_, Nat.mod_lt _ (by omega)⟩
      rw [Int.tmod_eq_emod_of_nonneg (by omega), wrap64 (by omega) (by omega)]
      omega
    obtain ⟨N, q, e1, e2, e8, e4, e5⟩ := breaks ls p1 p2 k hp
    have hNf := (typedL_fits hft (p1, p2) (p1, p2) (List.replicate k 13))
    rw [e1] at hNf
    simp (maxSteps := 4000000) only [↓wpA_H, ↓wpH_skip, ↓wpH_seq, ↓wpH_cond, ↓wpH_block, ↓wpH_loop, ↓wpH_region, ↓iselH_false, bselH_false, runH_nil, runH_cons, gw, gselH_plain, cselH_bool, ↓chk, justK, noW, ↓oneK, ↓pureK, ↓heapK, envOf, ↓thenA_normal, ↓stepEv, opnd, Pg.look, binK, intOp, Bool.not_true, Bool.false_eq_true, false_implies, implies_true, true_and, and_true, valV, heapV, footV, binV, intV, ofV, ofLeaf, Pg.freeze, List.foldl_nil, objAt, ↓callT, callC, callV, callH, normArgs, normA, normC, resL, res, shiftR, shift1, AV.cells, TK.cells, AV.definite, AV.leaf, AV.leafy, putCells, lay, List.getElem?_cons_zero, List.getElem?_nil, reduceCtorEq, Nat.reduceEqDiff, Nat.reduceAdd, List.nil_append, List.append_nil, List.cons_append, List.length_cons, List.length_nil, List.map_cons, List.map_nil, List.set_cons_zero, Nat.zero_add, ite_true, ite_false, Option.some.injEq, Prod.mk.injEq, ne_eq, not_false_eq_true, List.all_cons, List.all_nil, Bool.and_self, and_self, exists_eq_left', cInt_dec, cSl_dec, lNil_dec, lOne_dec, lCons_dec, dec2_some, List.contains_nil, Int.cast_ofNat_Int, List.range'_zero, decL_str, C1by_ns, C1by_pre, C1by_r, C1by_H, optP_some, optV_some, optH_some, Int.toNat_natCast, List.getD_cons_zero, List.drop_succ_cons, List.take_zero, Nat.le_refl, List.drop_nil, Nat.zero_lt_succ, tk3, tk5, tz5, eb5, tk24, tz24, dz24, tk31, kKnown, kText, kSPlace, kTyped, kTyp, aTyped, aPos, aCh, ht, hpp, hw5]
    refine ⟨hs, ⟨hl0, hsm, ha, hb⟩, by omega, by omega, ?_⟩
    refine loopH_intro (α := Nat) (fun i => ([(0, .sl 1 (ls.map .str)), (8, .bool false), (9, .ptr 0 2 1 0 0), (10, .int .i64 k), (11, .own 1 1 k), (12, .int .i64 i)], [.arr 24 2 [.agg [.int .i64 p1, .int .i64 p2]], .arr 5 1 (ofBytes (List.replicate i 13 ++ List.replicate (k - i) 0))]))
      (fun i => i ≤ k) (fun i => k - i) 0 (by omega) ?_ ?_
    · simp (maxSteps := 4000000) only [Pg.look, true_and, and_true, subA, subF, subG, pickOf, assocN, pairsE, pairsC, pairs0, frzE, frzC, frz0, frzH, Pg.freeze, List.foldl_nil, subOs, subO, subEv, subV, List.getElem?_cons_succ, List.getElem?_cons_zero, reduceCtorEq, Nat.reduceEqDiff, List.nil_append, List.append_nil, List.cons_append, Nat.zero_add, ite_true, ite_false, and_self, Int.cast_ofNat_Int, Nat.sub_zero, Nat.lt_irrefl, Nat.not_lt_zero]
      exact ⟨rfl, subX_eq rfl rfl, subX_eq (by simp [ofBytes]) (pureB_bytes _)⟩
    intro i hi
    by_cases hi2 : i < k
    · have hct : decide ((i : Int) < (k : Int)) = true := decide_eq_true (by omega)
      simp (maxSteps := 4000000) only [↓wpA_H, ↓wpH_skip, ↓wpH_seq, ↓wpH_cond, ↓wpH_block, ↓wpH_region, ↓iselH_true, bselH_false, runH_nil, runH_cons, gw, gselH_plain, cselH_bool, ↓chk, justK, ↓oneK, ↓pureK, ↓heapK, ↓thenA_normal, ↓blockA_normal, ↓stepEv, opnd, Pg.look, binK, intOp, Bool.false_eq_true, implies_true, true_and, and_true, valV, heapV, footV, binV, intV, ofV, ofLeaf, subA, subF, subG, pickOf, assocN, pairsE, pairsC, pairs0, frzE, frzC, frz0, frzH, Pg.freeze, List.foldl_nil, subOs, subO, subEv, subV, AV.cells, TK.cells, AV.leaf, AV.leafy, putCells, List.getElem?_cons_succ, List.getElem?_cons_zero, reduceCtorEq, Nat.reduceEqDiff, List.nil_append, List.append_nil, List.cons_append, List.length_cons, List.length_nil, List.set_cons_zero, List.set_cons_succ, Nat.zero_add, ite_true, ite_false, List.all_cons, List.all_nil, Bool.and_self, and_self, List.length_append, length_ofBytes, getD_ofBytes, List.contains_nil, Int.toNat_natCast, Nat.le_refl, Nat.lt_irrefl, Nat.not_lt_zero, Nat.zero_lt_succ, tk5, dz5, tk31, kKnown, kText, kSPlace, kTyped, kTyp, aTyped, aPos, aCh, set13, List.length_replicate, hct]
      refine ⟨by omega, ⟨by omega, by omega⟩, i + 1, by omega, by omega, rfl, ⟨subX_eq rfl rfl, subX_eq ?_ (pureB_bytes _)⟩, by rw [wrap64 (by omega) (by omega)]; omega⟩
      rw [fill13 k i hi2]
    have hik : i = k := by omega
    subst hik
    have hcf : decide ((i : Int) < (i : Int)) = false := decide_eq_false (by omega)
    have hr : List.replicate i (13 : UInt8) ++ List.replicate (i - i) 0 = List.replicate i 13 := by simp
    rw [hr]
    by_cases hk0 : i = 0
    · obtain ⟨rfl, rfl⟩ := e4 hk0
      have hc1 : (((i : Nat) : Int) == 0) = true := by rw [beq_iff_eq]; omega
      have hc2 : decide (((i : Nat) : Int) > 0) = false := decide_eq_false (by omega)
      have hw3 : IntKind.i64.wrap ((N.length : Int) + i) = N.length := by rw [wrap64 (by omega) (by omega)]; omega
      simp (maxSteps := 4000000) only [↓wpA_H, ↓wpH_skip, ↓wpH_ret, ↓wpH_exit, ↓wpH_seq, ↓wpH_cond, ↓wpH_region, ↓iselH_false, bselH_false, runH_nil, runH_cons, gw, gselH_plain, gselH_if, kselH_0, kselH_1, cselH_bool, gkind, ↓chk, pickO, justK, noW, ↓oneK, ↓pureK, ↓heapK, ↓thenA_normal, ↓thenA_exit, ↓blockA_exit, ↓stepEv, opnd, Pg.look, binK, intOp, strOp, cellsEq, leafEq, dstOf, Bool.and_false, Bool.and_true, Bool.not_false, Bool.not_true, Bool.false_eq_true, Bool.true_eq_false, false_implies, implies_true, imp_self, true_and, and_true, pickC, pickV, unc, gof, mux, mergeK, condsL, valV, heapV, footV, binV, intV, strV, cutV, mergeable, look_stripE, ofV, ofLeaf, sameK, retA, resK, tupA, subA, subF, subG, pickOf, frzE, frzC, frz0, frzH, Pg.freeze, List.foldl_nil, List.foldl_cons, subOs, subEv, subV, slen, ldCells, objAt, sliceS, ↓callT, callC, callV, callH, normArgs, normA, normC, resL, res, shiftR, shift1, AV.cells, TK.cells, AV.definite, AV.leaf, AV.leafy, putCells, lay, buildL, frzAt, Op.operands, Call.operands, Array.toList_append, List.getElem?_toArray, List.getElem?_cons_succ, List.getElem?_cons_zero, Option.bind_some, Option.map_some, Option.map_none, Option.getD_some, reduceCtorEq, Nat.reduceEqDiff, Nat.reduceAdd, List.nil_append, List.append_nil, List.cons_append, List.length_cons, List.length_nil, List.map_cons, List.map_nil, List.set_cons_zero, List.set_cons_succ, Nat.zero_add, Int.reduceToNat, ite_true, ite_false, Option.some.injEq, Option.isSome_some, AV.int.injEq, AV.agg.injEq, Prod.mk.injEq, Bool.if_false_right, Bool.decide_eq_true, List.all_cons, List.all_nil, Bool.and_self, and_self, exists_eq_left', pickOK_nil, List.length_map, cInt_dec, Option.toArray_some, Option.toArray_none, List.toList_toArray, length_ofBytes, cByte_lit, Int.reduceLE, Int.reduceLT, UInt8.reduceOfNat, decL_byte, cSl_dec, cAgg_dec, lOne_dec, lCons_dec, dec2_some, pureB_bytes, List.contains_nil, List.range'_zero, bne_self_eq_false, decL_str, C1by_ns, C1by_pre, C1by_r, C1by_H, optP_some, optV_some, optH_some, getD_str, List.getD_cons_zero, cutL, List.drop_zero, List.drop_succ_cons, List.take_succ_cons, List.take_zero, Nat.add_zero, Nat.sub_zero, Nat.reduceLeDiff, Nat.le_refl, List.drop_nil, List.take_nil, Nat.zero_lt_succ, tk3, tk9, dz9, tk22, tk24, tz24, dz24, eq24, tk33, tz33, dz33, kKnown, kText, kSPlace, kTyped, kTyp, aTyped, aPos, aCh, List.length_replicate, hcf, e1, e8, nothing, hc1, hc2, hw3, Bool.false_and]
      exact ⟨⟨fits_mono hft (by omega) (by omega), by omega⟩, hsm, by omega, by omega⟩
    · obtain ⟨rfl, e6, e7⟩ := e5 (by omega)
      have hc1 : (((i : Nat) : Int) == 0) = false := by rw [beq_eq_false_iff_ne]; omega
      have hc2 : decide (((i : Nat) : Int) > 0) = true := decide_eq_true (by omega)
      have w1 : IntKind.i64.wrap (p1 + i) = p1 + i := wrap64 (by omega) (by omega)
      have w2 : IntKind.i64.wrap ((ls.length : Int) + i) = (ls.length : Int) + i := wrap64 (by omega) (by omega)
      have hN2 : ((N.length : Int) != (ls.length : Int) + i) = false := by rw [bne_eq_false_iff_eq, e2]; omega
      have e9 : (p1 + (i : Int)).toNat = p1.toNat + i := by omega
      simp (maxSteps := 4000000) only [↓wpA_H, ↓wpH_skip, ↓wpH_ret, ↓wpH_exit, ↓wpH_seq, ↓wpH_cond, ↓wpH_region, ↓iselH_false, bselH_false, runH_nil, runH_cons, gw, gselH_plain, gselH_if, kselH_0, kselH_1, cselH_bool, gkind, ↓chk, pickO, justK, noW, ↓oneK, ↓pureK, ↓heapK, ↓thenA_normal, ↓thenA_exit, ↓blockA_exit, ↓stepEv, opnd, Pg.look, binK, intOp, strOp, cellsEq, leafEq, dstOf, Bool.not_false, Bool.not_true, Bool.false_eq_true, Bool.true_eq_false, false_implies, implies_true, true_and, and_true, forall_const, pickC, pickV, unc, gof, mux, mergeK, condsL, valV, heapV, footV, binV, intV, strV, cutV, mergeable, look_stripE, ofV, ofLeaf, sameK, retA, resK, tupA, subA, subF, subG, pickOf, frzE, frzC, frz0, frzH, Pg.freeze, List.foldl_nil, List.foldl_cons, subOs, subEv, subV, slen, ldCells, objAt, sliceS, ↓callT, callC, callV, callH, normArgs, normA, normC, resL, res, shiftR, shift1, AV.cells, TK.cells, AV.definite, AV.leaf, AV.leafy, putCells, lay, buildL, frzAt, Op.operands, Call.operands, Array.toList_append, List.getElem?_toArray, List.getElem?_cons_succ, List.getElem?_cons_zero, Option.bind_some, Option.map_some, Option.map_none, Option.getD_some, reduceCtorEq, Nat.reduceEqDiff, Nat.reduceAdd, List.nil_append, List.append_nil, List.cons_append, List.length_cons, List.length_nil, List.map_cons, List.map_nil, List.set_cons_zero, List.set_cons_succ, Nat.zero_add, Int.reduceToNat, ite_true, ite_false, Option.some.injEq, Option.isSome_some, AV.int.injEq, AV.agg.injEq, Prod.mk.injEq, List.all_cons, List.all_nil, Bool.and_self, and_self, exists_eq_left', pickOK_nil, List.length_map, cInt_dec, Option.toArray_some, Option.toArray_none, List.toList_toArray, length_ofBytes, cByte_lit, Int.reduceLE, Int.reduceLT, UInt8.reduceOfNat, decL_byte, cSl_dec, cAgg_dec, lOne_dec, lCons_dec, dec2_some, pureB_bytes, List.contains_nil, beq_self_eq_true, List.range'_zero, decL_str, C1by_ns, C1by_pre, C1by_r, C1by_H, optP_some, optV_some, optH_some, getD_str, List.getD_cons_zero, cutL, List.drop_zero, List.drop_succ_cons, List.take_succ_cons, List.take_zero, Nat.add_zero, Nat.sub_zero, Nat.reduceLeDiff, Nat.le_refl, List.drop_nil, List.take_nil, Nat.zero_lt_succ, tk3, tk9, dz9, tk22, tk24, tz24, dz24, eq24, tk33, tz33, dz33, kKnown, kText, kSPlace, kTyped, kTyp, aTyped, aPos, aCh, List.length_replicate, hcf, e1, e8, nothing, hc1, hc2, e6, e7, w1, w2, hN2, e9]
      rw [List.length_replicate] at hNf
      exact ⟨⟨fits_mono hft (by omega) (by omega), by omega⟩, fits_small hNf (by omega) (by omega), by omega, by omega, by omega, by omega, by omega⟩
end Go.Pg
