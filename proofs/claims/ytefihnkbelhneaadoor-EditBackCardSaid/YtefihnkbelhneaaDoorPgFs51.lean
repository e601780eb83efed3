/- A block is cut out of each of its lines, and nothing else is. -/
import Derived.Test.YtefihnkbelhneaaDoorPgFs48
import Derived.Test.YtefihnkbelhneaaDoorPgFs50
namespace Go.Pg
open Go Go.Proofs

theorem srange_le (ls : Ls) (k a b c d : Int) (h : few ls) : (srange ls k a b c d).2.2.1 ≤ 1048576 ∧ (srange ls k a b c d).2.2.2.2 ≤ 1048576 := by
  have hc : ∀ (x : Int) i, x % (((ls.getD i []).length : Int) + 1) ≤ 1048576 := fun x i => by
    have h1 := Int.emod_lt_of_pos x (b := ((ls.getD i []).length : Int) + 1) (by omega)
    have h2 := h.2 i
    omega
  simp only [srange]
  refine ⟨?_, ?_⟩
  · repeat' split
    all_goals exact hc _ _
  · repeat' split
    all_goals exact hc _ _

set_option maxRecDepth 20000 in
set_option maxHeartbeats 4000000 in
theorem calls_EditBlocks (ls : Ls) (a b c d : Int) (hs : ∀ i, (ls.getD i []).length ≤ 140737488355328) (ha : 0 ≤ a ∧ a < 65536) (hb : 0 ≤ b ∧ b < 65536) (hc : 0 ≤ c ∧ c < 65536) (hd : 0 ≤ d ∧ d < 65536) :
    CallsR Tryd.prog 6 [.sl 1 (ls.map .str), .int .u16 a, .int .u16 b, .int .u16 c, .int .u16 d] [] (.bool true) [] := by
  refine callsR_of (mrg := true) (dyn := []) (CtrOK.cons ok_eknown (CtrOK.cons ok_Text (CtrOK.cons ok_SRange (CtrOK.cons ok_Cut (CtrOK.cons ok_RText (CtrOK.nil _)))))) mixed Tryd.func6 rfl (by simp [Tryd.ntmps6]) (by kernel_rfl) ?_
  rw [show Tryd.f6.results.toList = [.tmp 10] from by kernel_rfl]
  cases ht : Pg.text ls with
  | false =>
    simp (maxSteps := 4000000) only [↓wpA_H, ↓wpH_skip, ↓wpH_ret, ↓wpH_seq, ↓wpH_cond, ↓wpH_region, ↓iselH_true, ↓iselH_false, bselH_false, runH_nil, runH_cons, gw, gselH_plain, cselH_bool, ↓chk, justK, ↓oneK, ↓pureK, envOf, ↓thenA_normal, ↓thenA_ret, ↓stepEv, opnd, Pg.look, Bool.not_false, Bool.not_true, Bool.false_eq_true, false_implies, implies_true, imp_self, true_and, and_true, valV, heapV, footV, ofV, ofLeaf, retA, resK, tupA, subA, subQ, ptrsE, frzO, subF, subG, pickOf, frzE, frzC, frz0, frzH, Pg.freeze, List.foldl_nil, subOs, subEv, subV_succ, subM, ↓callT, callC, callV, callH, normArgs, normA, normC, resL, res8_eq, res_succ, resM, shiftR, shift1, reduceCtorEq, Nat.reduceEqDiff, Nat.reduceAdd, List.nil_append, List.append_nil, List.length_nil, List.map_cons, List.map_nil, Nat.zero_add, ite_true, ite_false, Prod.mk.injEq, and_self, pickOK_nil, cSl_dec, lNil_dec, lOne_dec, List.contains_nil, List.range'_zero, decL_str, C1by_ns, C1by_pre, C1by_r, C1by_H, optP_some, optV_some, optH_some, kEKnown, kText, ht]
    exact hs
  | true =>
    have hft := fits_text ht
    obtain ⟨hl0, hl1, hl2⟩ := few_of_text ht
    have hsm : small ls := fits_small hft (by omega) (by omega)
    have hfw : few ls := ⟨by omega, fun i => by have := hl2 i; omega⟩
    have hv := srange_valid ls 2 a b c d hl0 hc.1 hd.1
    have hk2 : (srange ls 2 a b c d).1 = 2 := rfl
    obtain ⟨hb1, hb2⟩ := srange_le ls 2 a b c d hfw
    generalize hr : srange ls 2 a b c d = r at hv hk2 hb1 hb2
    obtain ⟨k, f1, f2, t1, t2⟩ := r
    simp only at hk2 hb1 hb2
    subst hk2
    obtain ⟨v1, v2, v3⟩ := valid_line hv
    simp only at v1 v2 v3
    have hf : 0 ≤ f2 ∧ f2 ≤ t2 := by
      have hv2 := hv
      simp [valid] at hv2
      omega
    have ec : cut ls (2, f1, f2, t1, t2) = ((f1, cutL ls f1.toNat (t1 + 1).toNat, eachL f1 t1 (cutLine ls (2, f1, f2, t1, t2))), true) := by
      unfold cut
      rw [if_pos hv]
      rfl
    have et : rtext ls (2, f1, f2, t1, t2) = eachL f1 t1 (textLine ls (2, f1, f2, t1, t2)) := if_pos hv
    have n1 : (eachL f1 t1 (cutLine ls (2, f1, f2, t1, t2))).length = (t1 + 1 - f1).toNat := by simp [eachL]
    have n2 : (eachL f1 t1 (textLine ls (2, f1, f2, t1, t2))).length = (t1 + 1 - f1).toNat := by simp [eachL]
    have n3 : ((ls.drop f1.toNat).take ((t1 + 1).toNat - f1.toNat)).length = (t1 + 1 - f1).toNat := by rw [List.length_take, List.length_drop]; omega
    simp (maxSteps := 4000000) only [↓wpA_H, ↓wpH_skip, ↓wpH_seq, ↓wpH_cond, ↓wpH_block, ↓wpH_loop, ↓wpH_region, ↓iselH_false, bselH_false, runH_nil, runH_cons, gw, gselH_plain, gselH_if, kselH_1, cselH_bool, gkind, ↓chk, justK, noW, ↓oneK, ↓pureK, ↓heapK, envOf, ↓thenA_normal, ↓stepEv, opnd, Pg.look, binK, intOp, dstOf, Bool.not_false, Bool.not_true, Bool.false_eq_true, false_implies, implies_true, true_and, and_true, pickC, pickV, unc, gof, mux, mergeK, condsL, valV, heapV, footV, binV, intV, mergeable, look_stripE, ofV, ofLeaf, sameK, Pg.freeze, List.foldl_nil, slen, ldCells, objAt, ↓callT, callC, callV, callH, normArgs, normA, normC, resL, res8_eq, res_succ, resM, shiftR, shift1, AV.cells, TK.cells, AV.definite, AV.leaf, AV.leafy, putCells, lay, Op.operands, Call.operands, Array.toList_append, List.getElem?_toArray, List.getElem?_cons_succ, List.getElem?_cons_zero, Option.bind_some, Option.getD_some, reduceCtorEq, Nat.reduceEqDiff, Nat.reduceAdd, List.nil_append, List.append_nil, List.cons_append, List.length_cons, List.length_nil, List.map_cons, List.map_nil, List.set_cons_zero, List.set_cons_succ, Nat.zero_add, ite_true, ite_false, Option.some.injEq, AV.int.injEq, Prod.mk.injEq, List.all_cons, List.all_nil, Bool.and_self, and_self, exists_eq_left', List.length_map, cInt_dec, List.toList_toArray, Int.reduceLE, Int.reduceLT, cSl_dec, cAgg_dec, lNil_dec, lOne_dec, lCons_dec, dec2_some, List.contains_nil, List.range'_zero, bne_self_eq_false, decL_str, C1by_ns, C1by_pre, C1by_r, C1by_H, optP_some, optV_some, optH_some, List.getD_cons_zero, cutL, List.drop_zero, List.drop_succ_cons, List.take_succ_cons, List.take_zero, Nat.add_zero, Nat.sub_zero, Nat.le_refl, List.drop_nil, List.take_nil, Nat.zero_lt_succ, tk3, tk22, tk24, tk31, tz31, dz31, tk49, tz49, dz49, kEKnown, kText, kSRange, kCut, kRText, ht, hr, aRg, aCh, ec, et, n1, n2, n3]
    refine ⟨hs, ⟨hl0, hfw, ha, hb, hc, hd⟩, hsm, hsm, ?_⟩
    have hC : ∀ i : Nat, i < (t1 + 1 - f1).toNat → (eachL f1 t1 (cutLine ls (2, f1, f2, t1, t2))).getD i [] = cutLine ls (2, f1, f2, t1, t2) (f1 + i) := fun i hi => by
      simp [eachL, List.getD_eq_getElem?_getD, hi]
    have hT : ∀ i : Nat, i < (t1 + 1 - f1).toNat → (eachL f1 t1 (textLine ls (2, f1, f2, t1, t2))).getD i [] = textLine ls (2, f1, f2, t1, t2) (f1 + i) := fun i hi => by
      simp [eachL, List.getD_eq_getElem?_getD, hi]
    have hO : ∀ i : Nat, i < (t1 + 1 - f1).toNat → ((ls.drop f1.toNat).take ((t1 + 1).toNat - f1.toNat)).getD i [] = ls.getD (f1 + (i : Int)).toNat [] := fun i hi => by
      rw [List.getD_eq_getElem?_getD, List.getElem?_take_of_lt (by omega), List.getElem?_drop, ← List.getD_eq_getElem?_getD]
      congr 1; omega
    generalize eachL f1 t1 (cutLine ls (2, f1, f2, t1, t2)) = C at n1 hC ⊢
    generalize eachL f1 t1 (textLine ls (2, f1, f2, t1, t2)) = T at n2 hT ⊢
    generalize (ls.drop f1.toNat).take ((t1 + 1).toNat - f1.toNat) = O at n3 hO ⊢
    obtain ⟨n, hn⟩ : ∃ n, (t1 + 1 - f1).toNat = n := ⟨_, rfl⟩
    rw [hn] at n1 n2 n3 hC hT hO
    refine loopH_intro (α := Nat) (fun i => ([(11, .ptr 0 5 1 0 0), (12, .ptr 1 3 1 0 0), (13, .bool true), (14, .sl 1 (T.map .str)), (15, .int .i64 i)], [.arr 49 5 [.agg [.int .i64 2, .int .i64 f1, .int .i64 f2, .int .i64 t1, .int .i64 t2]], .arr 31 3 [.agg [.int .i64 f1, .sl 1 (O.map .str), .sl 1 (C.map .str)]]])) (fun i => i ≤ n) (fun i => n - i) 0 (by omega) ?_ ?_
    · simp (maxSteps := 4000000) only [Pg.look, true_and, and_true, subA, subQ, ptrsE, pairsO, frzO, subF, subG, pickOf, assocN, pairsE, pairsC, pairsL, pairs0, frzE, frzC, frzL, frz0, frzH, Pg.freeze, List.foldl_nil, subOs, subO, subEv, subV_succ, subM, List.getElem?_cons_succ, List.getElem?_cons_zero, reduceCtorEq, Nat.reduceEqDiff, List.nil_append, List.append_nil, List.cons_append, Nat.zero_add, ite_true, ite_false, and_self, Int.cast_ofNat_Int, Nat.lt_irrefl, Nat.not_lt_zero]
      exact ⟨rfl, subX_eq rfl rfl, subX_cells (by simp [subL, subC, subV, AV.cells])⟩
    intro i hi
    by_cases hlt : i < n
    · have hct : decide ((i : Int) < (n : Int)) = true := decide_eq_true (by omega)
      have cC := hC i hlt
      have cT := hT i hlt
      have cO := hO i hlt
      obtain ⟨a1, a2, a3, a4, a5⟩ := cols_ok hv (f1 + i) (by show f1 ≤ _; omega) (by show _ ≤ t1; omega)
      have hcb := cols_block (n := (ls.getD (f1 + (i : Int)).toNat []).length) (r := (2, f1, f2, t1, t2)) (i := f1 + (i : Int)) rfl hf.1 hf.2
      have h12 := hl2 (f1 + (i : Int)).toNat
      unfold cutLine at cC
      unfold textLine at cT
      rw [hcb] at a3 a4 a5 cC cT
      generalize ls.getD (f1 + (i : Int)).toNat [] = s at a3 a4 a5 cC cT cO h12 hcb
      have hr1 : (rcols s.length (2, f1, f2, t1, t2)).1 = min f2 s.length := rfl
      generalize hx : (rcols s.length (2, f1, f2, t1, t2)).1 = x at a3 a4 a5 cC cT hr1
      have hr2 : (rcols s.length (2, f1, f2, t1, t2)).2 = max x (if t2 < s.length then t2 + 1 else s.length) := by rw [← hx]; rfl
      generalize (rcols s.length (2, f1, f2, t1, t2)).2 = y at a3 a4 a5 cC cT hr2
      have lT : (cutL s x.toNat y.toNat).length = (y - x).toNat := by unfold cutL; rw [List.length_take, List.length_drop]; omega
      have lT2 : (List.take (y.toNat - x.toNat) (List.drop x.toNat s)).length = (y - x).toNat := lT
      have w1 : IntKind.i64.wrap (x + ((y - x).toNat : Int)) = y := by rw [wrap64 (by omega) (by omega)]; omega
      have w2 : IntKind.i64.wrap (IntKind.i64.wrap (t2 - f2) + 1) = t2 - f2 + 1 := by rw [wrap64 (n := t2 - f2) (by omega) (by omega), wrap64 (by omega) (by omega)]
      have hlast : decide (((y - x).toNat : Int) > t2 - f2 + 1) = false := by
        rw [decide_eq_false_iff_not]
        split at hr2 <;> omega
      simp (maxSteps := 4000000) only [↓wpA_H, ↓wpH_skip, ↓wpH_seq, ↓wpH_cond, ↓wpH_block, ↓wpH_region, ↓iselH_true, ↓iselH_false, bselH_false, runH_nil, runH_cons, gw, gselH_plain, gselH_if, kselH_1, cselH_bool, gkind, ↓chk, justK, noW, ↓oneK, ↓pureK, ↓heapK, ↓thenA_normal, ↓blockA_normal, ↓stepEv, opnd, Pg.look, binK, intOp, strOp, dstOf, Bool.not_false, Bool.not_true, Bool.false_eq_true, implies_true, true_and, and_true, forall_const, pickC, pickV, unc, gof, mux, mergeK, condsL, valV, heapV, footV, binV, intV, strV, cutV, mergeable, look_stripE, ofV, ofLeaf, sameK, subA, subQ, ptrsE, pairsO, frzO, subF, subG, pickOf, assocN, pairsE, pairsC, pairsL, pairs0, frzE, frzC, frzL, frz0, frzH, Pg.freeze, List.foldl_nil, subOs, subO, subEv, subV_succ, subM, slen, ldCells, objAt, sliceS, AV.cells, TK.cells, foldInts, Op.operands, Call.operands, Array.toList_append, List.getElem?_toArray, List.getElem?_cons_succ, List.getElem?_cons_zero, Option.bind_some, Option.map_some, Option.map_none, Option.getD_some, reduceCtorEq, Nat.reduceEqDiff, Nat.reduceAdd, List.nil_append, List.append_nil, List.cons_append, List.length_cons, List.length_nil, List.map_cons, List.map_nil, Nat.zero_add, ite_true, ite_false, Option.some.injEq, AV.int.injEq, Bool.and_self, and_self, exists_eq_left', List.length_map, Option.toArray_some, Option.toArray_none, List.toList_toArray, List.contains_nil, beq_self_eq_true, getD_str, Int.toNat_natCast, List.getD_cons_zero, cutL, Nat.lt_irrefl, Nat.not_lt_zero, Nat.zero_lt_succ, tk3, tk9, dz9, tk22, tk24, tk31, dz31, tk49, dz49, n1, n2, n3, hct, cC, cT, cO, ← hr1, lT2, w1, w2, hlast]
      exact ⟨by omega, by omega, by omega, by omega, by omega, by omega, by omega, by rw [List.length_take, List.length_drop]; omega, by omega, by omega, by omega, by omega, by omega, i + 1, by omega, by omega, rfl, ⟨subX_eq rfl rfl, subX_cells (by simp [subL, subC, subV, AV.cells])⟩, by rw [wrap64 (by omega) (by omega)]; rfl⟩
    · have hcf : decide ((i : Int) < (n : Int)) = false := decide_eq_false (by omega)
      simp (maxSteps := 4000000) only [↓wpA_H, ↓wpH_ret, ↓wpH_exit, ↓wpH_seq, ↓wpH_cond, ↓wpH_region, ↓iselH_false, bselH_false, runH_nil, runH_cons, gw, gselH_plain, cselH_bool, ↓chk, justK, ↓oneK, ↓pureK, ↓thenA_normal, ↓thenA_exit, ↓blockA_exit, ↓stepEv, opnd, Pg.look, binK, intOp, Bool.false_eq_true, implies_true, true_and, and_true, valV, heapV, footV, binV, intV, ofV, ofLeaf, retA, resK, tupA, subA, subQ, ptrsE, frzO, subF, subG, pickOf, frzE, frzC, frz0, frzH, Pg.freeze, List.foldl_nil, subOs, subEv, subV_succ, subM, slen, Option.getD_some, Nat.reduceEqDiff, List.append_nil, List.length_nil, ite_true, ite_false, Option.some.injEq, AV.int.injEq, and_self, exists_eq_left', pickOK_nil, List.length_map, List.contains_nil, tk22, n2, hcf]
end Go.Pg
