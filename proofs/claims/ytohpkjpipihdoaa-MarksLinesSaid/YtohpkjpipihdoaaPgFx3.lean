/- Lines put in or taken out ahead of a mark. -/
import Derived.Test.YtohpkjpipihdoaaPgFx2
namespace Go.Pg
open Go Go.Proofs

theorem cLaw13 : CtrOK Try.prog [(15, kKnown13), (18, kNew), (19, kSet), (23, kGet), (21, kAdjust)] :=
  CtrOK.cons ok_known13 (CtrOK.cons ok_New (CtrOK.cons ok_Set (CtrOK.cons ok_Get (CtrOK.cons ok_Adjust (CtrOK.nil _)))))

theorem shiftS (x a o w : Int) (h1 : 0 ≤ x) (h2 : x ≤ 100000) (h3 : 0 ≤ a) (h4 : a ≤ 1000) (h5 : 0 ≤ o) (h6 : o ≤ 1000) (h7 : 0 ≤ w) (h8 : w ≤ 1000) :
    shiftM x a o w = if x < a then (x, true) else if x - a ≥ o then (x + w - o, true) else if x - a < w then (x, true) else (0, false) := by
  have e1 : wrong a = false := by simp [wrong]; omega
  have e2 : wrong o = false := by simp [wrong]; omega
  have e3 : wrong w = false := by simp [wrong]; omega
  unfold shiftM
  rw [e1, e2, e3]
  simp only [Bool.false_or, decide_eq_true_eq]
  by_cases h : x < a
  · rw [if_pos h, if_pos h]
  · rw [if_neg h, if_neg h]
    have e4 : w64 (x - a) = x - a := wrap64 (by omega) (by omega)
    have e5 : w64 (w - o) = w - o := wrap64 (by omega) (by omega)
    have e6 : w64 (x + (w - o)) = x + w - o := by rw [show x + (w - o) = x + w - o by omega]; exact wrap64 (by omega) (by omega)
    rw [e4, e5, e6]
theorem look_one (k : UInt8) (x y a o w : Int) : look1 k (adjM a o w (upd k (x, y) [])) = if (shiftM x a o w).2 = true then some ((shiftM x a o w).1, y) else none := by
  by_cases h : (shiftM x a o w).2 = true
  · simp [upd, adjM, stp, look1, h]
  · simp [upd, adjM, stp, look1, h]
theorem look_oneS (k : UInt8) (x y a o w : Int) (h1 : 0 ≤ x) (h2 : x ≤ 100000) (h3 : 0 ≤ a) (h4 : a ≤ 1000) (h5 : 0 ≤ o) (h6 : o ≤ 1000) (h7 : 0 ≤ w) (h8 : w ≤ 1000) :
    look1 k (adjM a o w (upd k (x, y) [])) = if x < a then some (x, y) else if x - a ≥ o then some (x + w - o, y) else if x - a < w then some (x, y) else none := by
  rw [look_one, shiftS x a o w h1 h2 h3 h4 h5 h6 h7 h8]
  by_cases c1 : x < a
  · simp [c1]
  · by_cases c2 : x - a ≥ o
    · simp [c1, c2]
    · by_cases c3 : x - a < w <;> simp [c1, c2, c3]

set_option maxRecDepth 20000 in
set_option maxHeartbeats 4000000 in
theorem calls_MarksLines (line at_ n : UInt8) (inn : Bool) : CallsR Try.prog 6 [.int .u8 line.toNat, .int .u8 at_.toNat, .int .u8 n.toNat, .bool inn] [] (.bool true) [] := by
  refine callsR_of (mrg := false) (dyn := []) (cLaw13) mixed Try.func6 rfl (by simp [Try.ntmps6]) (by kernel_rfl) ?_
  rw [show Try.f6.results.toList = [.tmp 8] from by kernel_rfl]
  have b1 := line.toNat_lt
  have b2 := at_.toNat_lt
  have b3 := n.toNat_lt
  have w1 : IntKind.i64.wrap (line.toNat : Int) = (line.toNat : Int) := wrap64 (by omega) (by omega)
  have w2 : IntKind.i64.wrap (at_.toNat : Int) = (at_.toNat : Int) := wrap64 (by omega) (by omega)
  have w3 : IntKind.i64.wrap (n.toNat : Int) = (n.toNat : Int) := wrap64 (by omega) (by omega)
  have n1 : nameOk 107 = true := rfl
  have hN : ∀ x, (keysOf (upd 107 x [])).Nodup := fun x => by simp [keysOf, upd]
  cases inn
  · simp (maxSteps := 4000000) only [↓wpA_H, ↓wpH_skip, ↓wpH_ret, ↓wpH_seq, ↓wpH_cond, ↓wpH_region, ↓iselH_true, ↓iselH_false, iselH_if, bselH_false, runH_nil, runH_cons, ↓fixG, setG, gw, gselH_plain, gselH_if, kselH_0, kselH_2, cselH_bool, gkind, ↓chk, pickO, justK, noW, ↓oneK, ↓pureK, ↓heapK, envOf, ↓thenA_normal, ↓stepEv, opnd, Pg.look, binK, intOp, cellsEq, leafEq, dstOf, Bool.and_true, Bool.not_false, Bool.not_true, Bool.false_eq_true, Bool.true_eq_false, false_implies, implies_true, imp_self, true_and, and_true, pickC, pickV, unc, gof, mux, valV, heapV, footV, binV, intV, alives, closeQ_nil, diagQ_zero, Nat.reduceAdd, mergeable, ofV, ofLeaf, retA, resK, tupA, subA, subQ, ptrsE, frzO, subF, subG, pickOf, frzE, frzC, frz0, frzH, Pg.freeze, List.foldl_nil, subOs, subEv, subV_succ, subM, ldCells, objAt, ↓callT, callC, callV, callH, normArgs, normA, resL, res8_eq, res_succ, resM, shiftR, shift1, AV.cells, TK.cells, AV.definite, AV.leaf, AV.leafy, putCells, lay, buildL, List.getElem?_toArray, List.getElem?_cons_succ, List.getElem?_cons_zero, Option.bind_some, Option.getD_some, reduceCtorEq, Nat.reduceEqDiff, Nat.reduceAdd, Nat.reduceSub, List.nil_append, List.append_nil, List.cons_append, List.length_cons, List.length_nil, List.map_cons, List.map_nil, List.set_cons_zero, List.set_cons_succ, Nat.zero_add, Int.reduceToNat, ite_true, ite_false, Option.some.injEq, Option.isSome_some, AV.agg.injEq, Prod.mk.injEq, decide_eq_true_eq, decide_eq_false_iff_not, Int.not_le, Int.not_lt, ne_eq, not_false_eq_true, List.all_cons, List.all_nil, Bool.and_self, and_self, Bool.not_eq_true', exists_eq_left', pickOK_nil, cInt_dec, cByte_lit, Int.reduceLE, Int.reduceLT, UInt8.reduceOfNat, lNil_dec, List.contains_cons, List.contains_nil, Nat.reduceBEq, Bool.or_self, List.range'_zero, C1by_ns, C1by_pre, C1by_r, C1by_H, optP_some, optV_some, optH_some, List.getD_cons_zero, List.getD_cons_succ, cutL, List.drop_zero, List.drop_succ_cons, List.take_succ_cons, List.take_zero, Nat.sub_zero, Nat.sub_self, Nat.reduceLeDiff, Nat.le_refl, List.drop_nil, List.take_nil, Nat.zero_lt_succ, C1by_it, regH_none, isNext, nextF, nextG, selC_false, ↓msel, muC, ↓callP, ↓callU, ↓callUV, ↓callUH, ↓callUF, C1by_mu, C1mby_mu, runM_eq, mkM_some, hNil_dec, hCons_dec, app3_some, hP_dec, hP1_some, hP2_some, hO1_some, hM1_mp, hMp_dec, hB1_some, hB2_arr, hBox_dec, hAgg_dec, decE_nil, encE_nil, pickF, nodupB, somes, fresh, gids, gid, putO, ren, renL, renO, List.range'_succ, tk3, tk4, tk5, tk37, tz37, dz37, eq37, kKnown13, kNew, kSet, kGet, kAdjust, hMarks, cPos_dec, decE_pos, mkH, n1, w1, w2, w3, hN]
    rw [look_oneS 107 _ 7 _ _ _ (by omega) (by omega) (by omega) (by omega) (by omega) (by omega) (by omega) (by omega)]
    have e1 : IntKind.i64.wrap ((at_.toNat : Int) + (n.toNat : Int)) = (at_.toNat : Int) + n.toNat := wrap64 (by omega) (by omega)
    have e2 : IntKind.i64.wrap ((line.toNat : Int) - (n.toNat : Int)) = (line.toNat : Int) - n.toNat := wrap64 (by omega) (by omega)
    rw [e1, e2]
    generalize (line.toNat : Int) = x at *
    generalize (at_.toNat : Int) = a at *
    generalize (n.toNat : Int) = m at *
    by_cases c1 : x < a
    · rw [if_pos c1]
      refine ⟨fun h => by omega, fun _ => ⟨fun _ => by simp, fun h => by simp at h⟩⟩
    · rw [if_neg c1]
      by_cases c2 : x - a ≥ m
      · rw [if_pos c2, show decide (x < a + m) = false from decide_eq_false (by omega)]
        refine ⟨fun _ => ⟨fun _ _ => by simp, fun h => by simp at h⟩, fun h => by omega⟩
      · rw [if_neg c2, if_neg (by omega), show decide (x < a + m) = true from decide_eq_true (by omega)]
        refine ⟨fun _ => ⟨fun _ h => by omega, fun h => by simp at h⟩, fun h => by omega⟩
  · simp (maxSteps := 4000000) only [↓wpA_H, ↓wpH_skip, ↓wpH_ret, ↓wpH_seq, ↓wpH_cond, ↓wpH_region, ↓iselH_true, ↓iselH_false, iselH_if, bselH_false, runH_nil, runH_cons, ↓fixG, setG, gw, gselH_plain, gselH_if, kselH_0, kselH_2, cselH_bool, gkind, ↓chk, pickO, justK, noW, ↓oneK, ↓pureK, ↓heapK, envOf, ↓thenA_normal, ↓stepEv, opnd, Pg.look, binK, intOp, cellsEq, leafEq, dstOf, Bool.and_true, Bool.not_false, Bool.not_true, Bool.false_eq_true, Bool.true_eq_false, false_implies, implies_true, imp_self, true_and, and_true, pickC, pickV, unc, gof, mux, valV, heapV, footV, binV, intV, alives, closeQ_nil, diagQ_zero, Nat.reduceAdd, mergeable, ofV, ofLeaf, retA, resK, tupA, subA, subQ, ptrsE, frzO, subF, subG, pickOf, frzE, frzC, frz0, frzH, Pg.freeze, List.foldl_nil, subOs, subEv, subV_succ, subM, ldCells, objAt, ↓callT, callC, callV, callH, normArgs, normA, resL, res8_eq, res_succ, resM, shiftR, shift1, AV.cells, TK.cells, AV.definite, AV.leaf, AV.leafy, putCells, lay, buildL, List.getElem?_toArray, List.getElem?_cons_succ, List.getElem?_cons_zero, Option.bind_some, Option.getD_some, reduceCtorEq, Nat.reduceEqDiff, Nat.reduceAdd, Nat.reduceSub, List.nil_append, List.append_nil, List.cons_append, List.length_cons, List.length_nil, List.map_cons, List.map_nil, List.set_cons_zero, List.set_cons_succ, Nat.zero_add, Int.reduceToNat, ite_true, ite_false, Option.some.injEq, Option.isSome_some, AV.agg.injEq, Prod.mk.injEq, decide_eq_true_eq, decide_eq_false_iff_not, Int.not_le, ne_eq, not_false_eq_true, List.all_cons, List.all_nil, Bool.and_self, and_self, exists_eq_left', pickOK_nil, cInt_dec, cByte_lit, Int.reduceLE, Int.reduceLT, UInt8.reduceOfNat, lNil_dec, List.contains_cons, List.contains_nil, Nat.reduceBEq, Bool.or_self, List.range'_zero, C1by_ns, C1by_pre, C1by_r, C1by_H, optP_some, optV_some, optH_some, List.getD_cons_zero, List.getD_cons_succ, cutL, List.drop_zero, List.drop_succ_cons, List.take_succ_cons, List.take_zero, Nat.sub_zero, Nat.sub_self, Nat.reduceLeDiff, Nat.le_refl, List.drop_nil, List.take_nil, Nat.zero_lt_succ, C1by_it, regH_none, isNext, nextF, nextG, selC_false, ↓msel, muC, ↓callP, ↓callU, ↓callUV, ↓callUH, ↓callUF, C1by_mu, C1mby_mu, runM_eq, mkM_some, hNil_dec, hCons_dec, app3_some, hP_dec, hP1_some, hP2_some, hO1_some, hM1_mp, hMp_dec, hB1_some, hB2_arr, hBox_dec, hAgg_dec, decE_nil, encE_nil, pickF, nodupB, somes, fresh, gids, gid, putO, ren, renL, renO, List.range'_succ, tk3, tk4, tk5, tk37, tz37, dz37, eq37, kKnown13, kNew, kSet, kGet, kAdjust, hMarks, cPos_dec, decE_pos, mkH, n1, w1, w2, w3, hN]
    rw [look_oneS 107 _ 7 _ _ _ (by omega) (by omega) (by omega) (by omega) (by omega) (by omega) (by omega) (by omega)]
    have e1 : IntKind.i64.wrap ((line.toNat : Int) + (n.toNat : Int)) = (line.toNat : Int) + n.toNat := wrap64 (by omega) (by omega)
    rw [e1]
    generalize (line.toNat : Int) = x at *
    generalize (at_.toNat : Int) = a at *
    generalize (n.toNat : Int) = m at *
    by_cases c1 : x < a
    · rw [if_pos c1]
      refine ⟨fun h => by omega, fun _ => ⟨fun _ => by simp, fun h => by simp at h⟩⟩
    · rw [if_neg c1, if_pos (by omega)]
      refine ⟨fun _ => ⟨fun _ => by simp, fun h => by simp at h⟩, fun h => by omega⟩
end Go.Pg
