/- Which keys type something. -/
import Derived.Test.YtkjfcpdancjhmaaPgFs12
namespace Go.Pg
open Go Go.Proofs

theorem typ_letter (ls : Ls) (p1 p2 : Int) (f : Int × Int) (m : Int) (k : UInt8) (hp : place ls p1 p2 = true) (hm : (m == 1 || m == 2) = true) (hl : letter k.toNat = true) :
    typ ls (p1, p2) f m k = ((p1, [ls.getD p1.toNat []], [(ls.getD p1.toNat []).take p2.toNat ++ [k] ++ (if (m == 2) = true then ((ls.getD p1.toNat []).drop p2.toNat).drop 1 else (ls.getD p1.toNat []).drop p2.toNat)]), (p1, p2 + 1), true) := by
  have e : typ ls (p1, p2) f m k = _ := if_pos (by simp only [hp, hm]; rfl)
  rw [e, if_pos hl]
theorem typ_break (ls : Ls) (p1 p2 : Int) (f : Int × Int) (m : Int) (k : UInt8) (hp : place ls p1 p2 = true) (hm : (m == 1 || m == 2) = true) (hl : letter k.toNat = false) (hk : (k.toNat == (13 : Int) || k.toNat == (10 : Int)) = true) :
    typ ls (p1, p2) f m k = ((p1, [ls.getD p1.toNat []], [(ls.getD p1.toNat []).take p2.toNat, (ls.getD p1.toNat []).drop p2.toNat]), (p1 + 1, 0), true) := by
  have e : typ ls (p1, p2) f m k = _ := if_pos (by simp only [hp, hm]; rfl)
  rw [e, if_neg (by rw [hl]; simp), if_pos hk]
theorem typ_none (ls : Ls) (p1 p2 : Int) (m : Int) (k : UInt8) (hl : letter k.toNat = false) (hk : (k.toNat == (13 : Int) || k.toNat == (10 : Int)) = false) :
    typ ls (p1, p2) (p1, p2) m k = nothing := by
  unfold typ
  dsimp only
  split
  · rw [if_neg (by rw [hl]; simp), if_neg (by rw [hk]; simp), if_neg ?_]
    intro h
    simp at h
  · rfl

theorem net_key (k : UInt8) : net [k] = if (letter k.toNat || k.toNat == (13 : Int) || k.toNat == (10 : Int)) = true then [k] else [] := by
  show netStep [] k = _
  unfold netStep
  split
  · rfl
  · rw [if_neg (by simp)]

theorem size_one (s : List UInt8) : size [s] = s.length + 1 := by simp [size]
theorem size_two (s t : List UInt8) : size [s, t] = s.length + t.length + 2 := by simp [size]; omega
theorem few_one (s : List UInt8) (h : s.length ≤ 1048576) : few [s] := by
  refine ⟨by simp, fun i => ?_⟩
  match i with
  | 0 => exact h
  | i + 1 => simp
theorem few_two (s t : List UInt8) (h : s.length ≤ 1048576) (h' : t.length ≤ 1048576) : few [s, t] := by
  refine ⟨by simp, fun i => ?_⟩
  match i with
  | 0 => exact h
  | 1 => exact h'
  | i + 2 => simp

def lKeys : CdL (Ls × Int × Int × UInt8 × Bool) := lCons cStrs (lCons (cInt .u16) (lCons (cInt .u16) (lCons cByte (lOne cBool))))

set_option maxRecDepth 20000 in
set_option maxHeartbeats 4000000 in
theorem calls_InsertKeys (ls : Ls) (a b : Int) (k : UInt8) (o : Bool) (hs : ∀ i, (ls.getD i []).length ≤ 140737488355328) (ha : 0 ≤ a ∧ a < 65536) (hb : 0 ≤ b ∧ b < 65536) :
    CallsR Try.prog 8 [.sl 1 (ls.map .str), .int .u16 a, .int .u16 b, .int .u8 k.toNat, .bool o] [] (.bool true) [] := by
  refine callsR_of (mrg := true) (dyn := []) (CtrOK.cons ok_known (CtrOK.cons ok_Text (CtrOK.cons ok_SPlace (CtrOK.cons ok_Type (CtrOK.cons ok_Net (CtrOK.cons ok_Change (CtrOK.cons ok_Strings (CtrOK.cons ok_RSize (CtrOK.nil _))))))))) mixed Try.func8 rfl (by simp [Try.ntmps8]) (by kernel_rfl) ?_
  rw [show Try.f8.results.toList = [.tmp 10] from by kernel_rfl]
  cases ht : text ls with
  | false =>
    simp (maxSteps := 4000000) only [↓wpA_H, ↓wpH_skip, ↓wpH_ret, ↓wpH_seq, ↓wpH_cond, ↓wpH_region, ↓iselH_true, ↓iselH_false, bselH_false, runH_nil, runH_cons, gw, gselH_plain, cselH_bool, ↓chk, justK, ↓oneK, ↓pureK, envOf, ↓thenA_normal, ↓thenA_ret, ↓stepEv, opnd, Pg.look, Bool.not_false, Bool.not_true, Bool.false_eq_true, false_implies, implies_true, imp_self, true_and, and_true, valV, heapV, footV, ofV, ofLeaf, retA, resK, tupA, subA, subF, subG, pickOf, frzE, frzC, frz0, frzH, Pg.freeze, List.foldl_nil, subOs, subEv, subV, objAt, ↓callT, callC, callV, callH, normArgs, normA, normC, resL, res, shiftR, shift1, List.getElem?_nil, reduceCtorEq, Nat.reduceEqDiff, Nat.reduceAdd, List.nil_append, List.append_nil, List.length_nil, List.map_cons, List.map_nil, Nat.zero_add, ite_true, ite_false, Prod.mk.injEq, and_self, pickOK_nil, cSl_dec, lNil_dec, lOne_dec, List.contains_nil, List.range'_zero, decL_str, C1by_ns, C1by_pre, C1by_r, C1by_H, optP_some, optV_some, optH_some, kKnown, kText, ht]
    exact hs
  | true =>
    have hft := fits_text ht
    obtain ⟨hl0, hl1, hl2⟩ := few_of_text ht
    have hsm : small ls := fits_small hft (by omega) (by omega)
    have hp := splace_place ls a b hl0 hb.1
    cases hpp : splace ls a b with | mk p1 p2
    rw [hpp] at hp
    simp only at hp
    obtain ⟨q1, q2, q3, q4⟩ := (place_iff ..).1 hp
    have hlen := hl2 p1.toNat
    have w1 : IntKind.i64.wrap (p1 + 1) = p1 + 1 := wrap64 (by omega) (by omega)
    have w2 : IntKind.i64.wrap (p2 + 1) = p2 + 1 := wrap64 (by omega) (by omega)
    have w3 : ((ls.drop p1.toNat).take ((p1 + 1).toNat - p1.toNat)) = [ls.getD p1.toNat []] := by
      rw [show (p1 + 1).toNat - p1.toNat = 1 by omega, take1_drop ls p1.toNat [] (by omega)]
    cases hl : letter k.toNat with
    | true =>
      have e1 := typ_letter ls p1 p2 (p1, p2) 1 k hp rfl hl
      have e2 := typ_letter ls p1 p2 (p1, p2) 2 k hp rfl hl
      have hl' := hl
      unfold letter at hl'
      rw [if_neg (by decide)] at e1
      rw [if_pos (by decide)] at e2
      have en : net [k] = [k] := by rw [net_key, if_pos (by rw [hl]; rfl)]
      generalize hx1 : (ls.getD p1.toNat []).take p2.toNat ++ [k] ++ (ls.getD p1.toNat []).drop p2.toNat = x1 at e1
      generalize hx2 : (ls.getD p1.toNat []).take p2.toNat ++ [k] ++ ((ls.getD p1.toNat []).drop p2.toNat).drop 1 = x2 at e2
      simp (maxSteps := 4000000) only [↓wpA_H, ↓wpH_skip, ↓wpH_ret, ↓wpH_seq, ↓wpH_cond, ↓wpH_region, ↓iselH_false, iselH_if, bselH_false, runH_nil, runH_cons, gw, gselH_plain, gselH_if, kselH_0, kselH_1, cselH_bool, gkind, ↓chk, pickO, justK, noW, ↓oneK, ↓pureK, ↓heapK, envOf, ↓thenA_normal, ↓stepEv, opnd, Pg.look, binK, intOp, cellsEq, leafEq, dstOf, Bool.and_false, Bool.and_true, Bool.not_false, Bool.not_true, Bool.false_eq_true, Bool.true_eq_false, false_implies, implies_true, imp_self, true_and, and_true, forall_const, pickC, pickV, unc, gof, mux, mergeK, condsL, valV, heapV, footV, binV, intV, cutV, mergeable, look_stripE, ofV, ofLeaf, sameK, retA, resK, tupA, subA, subF, subG, pickOf, frzE, frzC, frz0, frzH, Pg.freeze, List.foldl_nil, List.foldl_cons, subOs, subEv, subV, slen, ldCells, objAt, sliceL, ↓callT, callC, callV, callH, normArgs, normA, normC, normL, resL, res, shiftR, shift1, AV.cells, TK.cells, AV.definite, AV.leaf, AV.leafy, AV.pureLeaf, AV.pureB, putCells, lay, buildL, frzAt, Op.operands, Call.operands, Array.toList_append, List.getElem?_toArray, List.getElem?_cons_succ, List.getElem?_cons_zero, List.getElem?_nil, Option.bind_some, Option.map_some, Option.map_none, Option.getD_some, reduceCtorEq, Nat.reduceEqDiff, Nat.reduceAdd, List.nil_append, List.append_nil, List.cons_append, List.length_cons, List.length_nil, List.map_cons, List.map_nil, List.set_cons_zero, List.set_cons_succ, Nat.zero_add, ite_true, ite_false, Option.some.injEq, Option.isSome_some, AV.int.injEq, AV.agg.injEq, Prod.mk.injEq, Bool.if_false_right, Bool.if_true_left, Bool.decide_eq_true, decide_eq_true_eq, decide_eq_false_iff_not, Int.not_le, List.all_cons, List.all_nil, Bool.and_self, and_self, Bool.not_eq_true', exists_eq_left', pickOK_nil, List.length_map, cInt_dec, Option.toArray_some, Option.toArray_none, List.toList_toArray, rg1, length_ofBytes, cByte_dec, cStr_dec, cSl_dec, cAgg_dec, lNil_dec, lOne_dec, lCons_dec, dec2_some, List.contains_nil, beq_self_eq_true, decL_nil, decL_cons, consO_some, Int.cast_ofNat_Int, Int.reduceBNe, List.range'_zero, Nat.reducePow, decL_str, C1by_ns, C1by_pre, C1by_r, C1by_H, optP_some, optV_some, optH_some, ← List.map_drop, ← List.map_take, List.getD_cons_zero, cutL, List.drop_zero, List.drop_succ_cons, List.take_succ_cons, List.take_zero, Nat.add_zero, Nat.sub_zero, Nat.reduceLeDiff, Nat.le_refl, Nat.mul_one, List.drop_nil, List.take_nil, Nat.zero_lt_succ, tk3, tk4, eb5, tk22, tk24, tz24, dz24, eq24, tk31, tk33, tz33, dz33, kKnown, kText, kSPlace, kTyp, kNet, kChange, kStrings, kRSize, aTyped, aCh, aPos, ht, hpp, e1, e2, en, hl', w1, w2, w3]
      have l1 : (ls.getD p1.toNat []).length + 1 = x1.length := by
        rw [← hx1]; simp only [List.length_append, List.length_take, List.length_drop, List.length_cons, List.length_nil]; omega
      have l2 : (ls.getD p1.toNat []).length ≤ x2.length ∧ x2.length ≤ (ls.getD p1.toNat []).length + 1 := by
        rw [← hx2]; simp only [List.length_append, List.length_take, List.length_drop, List.length_cons, List.length_nil]; omega
      refine ⟨hs, ⟨hl0, hsm, ha, hb⟩, fun _ => ⟨hsm, ⟨by omega, by omega, by omega⟩, few_one _ (by omega), few_one _ (by omega), ?_⟩, fun _ => ⟨hsm, ⟨by omega, by omega, by omega⟩, few_one _ (by omega), few_one _ (by omega), ?_⟩⟩
      · rw [size_one, size_one]; omega
      · rw [size_one, size_one]; omega
    | false =>
      have hl' := hl
      unfold letter at hl'
      cases hk : ((k.toNat : Int) == 13 || (k.toNat : Int) == 10) with
      | true =>
        have e1 := typ_break ls p1 p2 (p1, p2) 1 k hp rfl hl hk
        have e2 := typ_break ls p1 p2 (p1, p2) 2 k hp rfl hl hk
        have en : net [k] = [k] := by rw [net_key, if_pos (by rw [Bool.or_assoc, hk, Bool.or_true])]
        have hk' : ((decide ((k.toNat : Int) ≥ 32) && (k.toNat : Int) != 127 || (k.toNat : Int) == 9) || (k.toNat : Int) == 13 || (k.toNat : Int) == 10) = true := by rw [Bool.or_assoc, hk, Bool.or_true]
        simp (maxSteps := 4000000) only [↓wpA_H, ↓wpH_skip, ↓wpH_ret, ↓wpH_seq, ↓wpH_cond, ↓wpH_region, ↓iselH_false, iselH_if, bselH_false, runH_nil, runH_cons, gw, gselH_plain, gselH_if, kselH_0, kselH_1, cselH_bool, gkind, ↓chk, pickO, justK, noW, ↓oneK, ↓pureK, ↓heapK, envOf, ↓thenA_normal, ↓stepEv, opnd, Pg.look, binK, intOp, cellsEq, leafEq, dstOf, Bool.and_false, Bool.not_false, Bool.not_true, Bool.false_eq_true, Bool.true_eq_false, false_implies, implies_true, imp_self, true_and, and_true, forall_const, pickC, pickV, unc, gof, mux, mergeK, condsL, valV, heapV, footV, binV, intV, cutV, mergeable, look_stripE, ofV, ofLeaf, sameK, retA, resK, tupA, subA, subF, subG, pickOf, frzE, frzC, frz0, frzH, Pg.freeze, List.foldl_nil, List.foldl_cons, subOs, subEv, subV, slen, ldCells, objAt, sliceL, ↓callT, callC, callV, callH, normArgs, normA, normC, normL, resL, res, shiftR, shift1, AV.cells, TK.cells, AV.definite, AV.leaf, AV.leafy, AV.pureLeaf, AV.pureB, putCells, lay, buildL, frzAt, Op.operands, Call.operands, Array.toList_append, List.getElem?_toArray, List.getElem?_cons_succ, List.getElem?_cons_zero, List.getElem?_nil, Option.bind_some, Option.map_some, Option.map_none, Option.getD_some, reduceCtorEq, Nat.reduceEqDiff, Nat.reduceAdd, List.nil_append, List.append_nil, List.cons_append, List.length_cons, List.length_nil, List.map_cons, List.map_nil, List.set_cons_zero, List.set_cons_succ, Nat.zero_add, ite_true, ite_false, Option.some.injEq, Option.isSome_some, AV.int.injEq, AV.agg.injEq, Prod.mk.injEq, Bool.if_false_right, Bool.if_true_left, Bool.decide_eq_true, decide_eq_true_eq, decide_eq_false_iff_not, Int.not_le, List.all_cons, List.all_nil, Bool.and_self, and_self, Bool.not_eq_true', exists_eq_left', pickOK_nil, List.length_map, cInt_dec, Option.toArray_some, Option.toArray_none, List.toList_toArray, rg1, length_ofBytes, cByte_dec, cStr_dec, cSl_dec, cAgg_dec, lNil_dec, lOne_dec, lCons_dec, dec2_some, List.contains_nil, beq_self_eq_true, decL_nil, decL_cons, consO_some, Int.cast_ofNat_Int, Int.reduceBNe, List.range'_zero, Nat.reducePow, decL_str, C1by_ns, C1by_pre, C1by_r, C1by_H, optP_some, optV_some, optH_some, ← List.map_drop, ← List.map_take, List.getD_cons_zero, cutL, List.drop_zero, List.drop_succ_cons, List.take_succ_cons, List.take_zero, Nat.add_zero, Nat.sub_zero, Nat.reduceLeDiff, Nat.le_refl, Nat.mul_one, List.drop_nil, List.take_nil, Nat.zero_lt_succ, tk3, tk4, eb5, tk22, tk24, tz24, dz24, eq24, tk31, tk33, tz33, dz33, kKnown, kText, kSPlace, kTyp, kNet, kChange, kStrings, kRSize, aTyped, aCh, aPos, ht, hpp, e1, e2, en, hl', hk, w1, w2, w3]
        have hlt := List.length_take (i := p2.toNat) (l := ls.getD p1.toNat [])
        have hld := List.length_drop (i := p2.toNat) (l := ls.getD p1.toNat [])
        have hsz : size [(ls.getD p1.toNat []).take p2.toNat, (ls.getD p1.toNat []).drop p2.toNat] ≥ size [ls.getD p1.toNat []] := by rw [size_one, size_two]; omega
        exact ⟨hs, ⟨hl0, hsm, ha, hb⟩, fun _ => ⟨hsm, ⟨by omega, by omega, by omega⟩, few_two _ _ (by omega) (by omega), few_one _ (by omega), hsz⟩, fun _ => ⟨hsm, ⟨by omega, by omega, by omega⟩, few_two _ _ (by omega) (by omega), few_one _ (by omega), hsz⟩⟩
      | false =>
        have e1 := typ_none ls p1 p2 1 k hl hk
        have e2 := typ_none ls p1 p2 2 k hl hk
        have en : net [k] = [] := by rw [net_key, if_neg (by rw [Bool.or_assoc, hk, hl]; simp)]
        have hk' : ((decide ((k.toNat : Int) ≥ 32) && (k.toNat : Int) != 127 || (k.toNat : Int) == 9) || (k.toNat : Int) == 13 || (k.toNat : Int) == 10) = false := by rw [Bool.or_assoc, hk, hl']; rfl
        simp (maxSteps := 4000000) only [↓wpA_H, ↓wpH_skip, ↓wpH_ret, ↓wpH_seq, ↓wpH_cond, ↓wpH_region, ↓iselH_true, ↓iselH_false, iselH_if, bselH_false, runH_nil, runH_cons, gw, gselH_plain, gselH_if, kselH_1, cselH_bool, gkind, ↓chk, justK, noW, ↓oneK, ↓pureK, ↓heapK, envOf, ↓thenA_normal, ↓thenA_ret, ↓stepEv, opnd, Pg.look, binK, intOp, cellsEq, leafEq, dstOf, Bool.not_false, Bool.not_true, Bool.false_eq_true, Bool.true_eq_false, false_implies, implies_true, imp_self, true_and, and_true, pickC, pickV, unc, gof, mux, mergeK, condsL, valV, heapV, footV, binV, intV, mergeable, look_stripE, ofV, ofLeaf, sameK, retA, resK, tupA, subA, subF, subG, pickOf, frzE, frzC, frz0, frzH, Pg.freeze, List.foldl_nil, List.foldl_cons, subOs, subEv, subV, slen, ldCells, objAt, ↓callT, callC, callV, callH, normArgs, normA, normC, normL, resL, res, shiftR, shift1, AV.cells, TK.cells, AV.definite, AV.leaf, AV.leafy, AV.pureLeaf, AV.pureB, putCells, lay, buildL, frzAt, Op.operands, Call.operands, Array.toList_append, List.getElem?_toArray, List.getElem?_cons_succ, List.getElem?_cons_zero, List.getElem?_nil, Option.bind_some, Option.getD_some, reduceCtorEq, Nat.reduceEqDiff, Nat.reduceAdd, List.nil_append, List.append_nil, List.cons_append, List.length_cons, List.length_nil, List.map_cons, List.map_nil, List.set_cons_zero, List.set_cons_succ, Nat.zero_add, ite_true, ite_false, Option.some.injEq, Option.isSome_some, AV.int.injEq, AV.agg.injEq, Prod.mk.injEq, Bool.if_false_right, Bool.if_true_left, Bool.decide_eq_true, decide_eq_true_eq, decide_eq_false_iff_not, Int.not_le, List.all_cons, List.all_nil, Bool.and_self, and_self, Bool.not_eq_true', exists_eq_left', pickOK_nil, cInt_dec, List.toList_toArray, rg1, length_ofBytes, cByte_dec, cSl_dec, cAgg_dec, lNil_dec, lOne_dec, lCons_dec, dec2_some, List.contains_nil, beq_self_eq_true, decL_nil, decL_cons, consO_some, Int.cast_ofNat_Int, List.range'_zero, Nat.reducePow, bne_self_eq_false, decL_str, C1by_ns, C1by_pre, C1by_r, C1by_H, optP_some, optV_some, optH_some, List.getD_cons_zero, cutL, List.drop_zero, List.drop_succ_cons, List.take_succ_cons, List.take_zero, Nat.sub_zero, Nat.reduceLeDiff, Nat.le_refl, Nat.mul_one, List.drop_nil, List.take_nil, Nat.zero_lt_succ, Nat.zero_le, tk4, eb5, tk24, tz24, dz24, eq24, tk31, tk33, tz33, dz33, kKnown, kText, kSPlace, kTyp, kNet, kChange, kStrings, kRSize, aTyped, aCh, aPos, ht, hpp, e1, e2, en, hl', hk, nothing]
        exact ⟨hs, ⟨hl0, hsm, ha, hb⟩, fun _ => hsm, fun _ => hsm⟩
end Go.Pg
