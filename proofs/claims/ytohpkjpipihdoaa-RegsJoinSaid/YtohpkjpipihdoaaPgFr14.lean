/- What two registers are together. -/
import Derived.Test.YtohpkjpipihdoaaPgFr8a
namespace Go.Pg
open Go Go.Proofs

set_option maxRecDepth 20000 in
set_option maxHeartbeats 4000000 in
theorem calls_XJoin (a b : RgV) (ha : fitR a.2) (hb : fitR b.2) : CallsR Try.prog 30 [aRg a, aRg b] [] (aRg (joinR a b)) [] := by
  refine callsR_of (mrg := true) (dyn := [2, 4, 6]) (CtrOK.nil _) mixed Try.func30 rfl (by simp [Try.ntmps30]) (by kernel_rfl) ?_
  rw [show Try.f30.results.toList = [.cell 4 52] from by kernel_rfl]
  obtain ⟨ak, al⟩ := a
  obtain ⟨bk, bl⟩ := b
  have ha1 : al.length ≤ 1000000 := ha.1
  have hb1 : bl.length ≤ 1000000 := hb.1
  have ha2 : ∀ i, (al.getD i []).length ≤ 1152921504606846976 := fun i => by have := lsz_getD al i; have h9 : lsz al ≤ 1152921504606846976 := ha.2; omega
  have hb2 : ∀ i, (bl.getD i []).length ≤ 1152921504606846976 := fun i => by have := lsz_getD bl i; have h9 : lsz bl ≤ 1152921504606846976 := hb.2; omega
  cases hc : (ak != 0 || bk != 0) with
  | true =>
    have hj : joinR (ak, al) (bk, bl) = (1, al ++ bl) := if_pos hc
    rw [hj]
    simp (maxSteps := 4000000) only [↓wpA_H, ↓wpH_ret, ↓wpH_seq, ↓wpH_cond, ↓wpH_region, bselH_true, ↓iselH_true, bselH_false, runH_nil, runH_cons, gw, gselH_plain, gselH_if, kselH_1, cselH_bool, gkind, ↓chk, justK, noW, ↓oneK, ↓pureK, ↓heapK, envOf, ↓thenA_normal, ↓thenA_ret, ↓stepEv, opnd, Pg.look, binK, intOp, dstOf, Bool.false_eq_true, implies_true, imp_self, true_and, and_true, forall_const, pickC, pickV, unc, gof, mux, mergeK, condsL, valV, heapV, footV, binV, intV, alives, closeQ_nil, diagQ_zero, Nat.reduceAdd, mergeable, look_stripE, ofV, ofLeaf, sameK, retA, resK, tupA, subA, subQ, ptrsE, frzO, subF, subG, pickOf, frzE, frzC, frzL, frz0, frzH, Pg.freeze, List.foldl_nil, List.foldl_cons, subOs, subEv, subV_succ, subM, subL, srcV, srcE, appK, ldCells, objAt, res_succ, resM, AV.cells, TK.cells, AV.definite, AV.leaf, AV.leafy, putCells, lay, buildL, frzAt, Op.operands, List.getElem?_toArray, List.getElem?_cons_succ, List.getElem?_cons_zero, Option.bind_some, Option.getD_some, reduceCtorEq, Nat.reduceEqDiff, Nat.reduceAdd, List.nil_append, List.append_nil, List.cons_append, List.length_cons, List.length_nil, List.map_cons, List.map_nil, List.set_cons_zero, List.set_cons_succ, Nat.zero_add, ite_true, ite_false, Option.some.injEq, Option.isSome_some, AV.agg.injEq, Bool.if_true_left, Bool.decide_eq_true, not_false_eq_true, List.all_cons, List.all_nil, Bool.and_self, and_self, Bool.not_eq_true', exists_eq_left', pickOK_nil, List.length_map, List.toList_toArray, List.length_append, not_mem_nil, app_strs, pureB_strs, leafy_strs, resIn, List.contains_cons, List.contains_nil, Nat.reduceBEq, Bool.or_self, Bool.or_false, beq_self_eq_true, List.getD_cons_zero, cutL, List.drop_zero, List.drop_succ_cons, List.take_succ_cons, List.take_zero, Nat.add_zero, Nat.sub_zero, Nat.reduceLeDiff, Nat.le_refl, List.drop_nil, List.take_nil, Nat.zero_lt_succ, regH_none, isNext, nextF, nextG, selC_false, mapAt, tk3, eb9, tk50, tk52, tz52, dz52, hc]
    exact ⟨by omega, by omega, by kernel_rfl⟩
  | false =>
    cases h2 : ((al.length : Int) == 0 || (bl.length : Int) == 0) with
    | true =>
      have hj : joinR (ak, al) (bk, bl) = (0, al ++ bl) := by
        unfold joinR
        rw [if_neg (by rw [show ((ak, al).1 != 0 || (bk, bl).1 != 0) = false from hc]; simp)]
        exact if_pos h2
      rw [hj]
      simp (maxSteps := 4000000) only [↓wpA_H, ↓wpH_skip, ↓wpH_ret, ↓wpH_seq, ↓wpH_cond, ↓wpH_region, bselH_true, ↓iselH_true, ↓iselH_false, bselH_false, runH_nil, runH_cons, gw, gselH_plain, gselH_if, kselH_1, cselH_bool, gkind, ↓chk, justK, noW, ↓oneK, ↓pureK, ↓heapK, envOf, ↓thenA_normal, ↓thenA_ret, ↓stepEv, opnd, Pg.look, binK, intOp, dstOf, Bool.false_eq_true, implies_true, imp_self, true_and, and_true, forall_const, pickC, pickV, unc, gof, mux, mergeK, condsL, valV, heapV, footV, binV, intV, alives, closeQ_nil, diagQ_zero, Nat.reduceAdd, mergeable, look_stripE, ofV, ofLeaf, sameK, retA, resK, tupA, subA, subQ, ptrsE, frzO, subF, subG, pickOf, frzE, frzC, frzL, frz0, frzH, Pg.freeze, List.foldl_nil, List.foldl_cons, subOs, subEv, subV_succ, subM, subL, slen, srcV, srcE, appK, ldCells, objAt, res_succ, resM, AV.cells, TK.cells, AV.definite, AV.leaf, AV.leafy, putCells, lay, buildL, frzAt, Op.operands, Call.operands, Array.toList_append, List.getElem?_toArray, List.getElem?_cons_succ, List.getElem?_cons_zero, Option.bind_some, Option.getD_some, reduceCtorEq, Nat.reduceEqDiff, Nat.reduceAdd, List.nil_append, List.append_nil, List.cons_append, List.length_cons, List.length_nil, List.map_cons, List.map_nil, List.set_cons_zero, List.set_cons_succ, Nat.zero_add, ite_true, ite_false, Option.some.injEq, Option.isSome_some, AV.int.injEq, AV.agg.injEq, Bool.if_true_left, Bool.decide_eq_true, not_false_eq_true, List.all_cons, List.all_nil, Bool.and_self, and_self, Bool.not_eq_true', exists_eq_left', pickOK_nil, List.length_map, List.toList_toArray, List.length_append, not_mem_nil, app_strs, pureB_strs, leafy_strs, resIn, List.contains_cons, List.contains_nil, Nat.reduceBEq, Bool.or_self, Bool.or_false, beq_self_eq_true, Bool.or_true, List.getD_cons_zero, cutL, List.drop_zero, List.drop_succ_cons, List.take_succ_cons, List.take_zero, Nat.add_zero, Nat.sub_zero, Nat.reduceLeDiff, Nat.le_refl, List.drop_nil, List.take_nil, Nat.zero_lt_succ, regH_none, isNext, nextF, nextG, selC_false, mapAt, tk3, eb9, tk50, tk52, tz52, dz52, hc, h2]
      exact ⟨by omega, by omega, by kernel_rfl⟩
    | false =>
      have hj : joinR (ak, al) (bk, bl) = (0, al.take (al.length - 1) ++ ((al.getD (al.length - 1) [] ++ bl.getD 0 []) :: bl.drop 1)) := by
        unfold joinR
        rw [if_neg (by rw [show ((ak, al).1 != 0 || (bk, bl).1 != 0) = false from hc]; simp)]
        exact if_neg (by rw [show (((ak, al).2.length : Int) == 0 || ((bk, bl).2.length : Int) == 0) = false from h2]; simp)
      rw [hj]
      have h3 := h2
      simp only [Bool.or_eq_false_iff, beq_eq_false_iff_ne, ne_eq] at h3
      have w : IntKind.i64.wrap ((al.length : Int) - 1) = ((al.length - 1 : Nat) : Int) := by rw [wrap64 (by omega) (by omega)]; omega
      have h5 := ha2 (al.length - 1)
      have h4 := hb2 0
      obtain ⟨k, hk⟩ : ∃ k, k = al.length - 1 := ⟨_, rfl⟩
      have hk2 : al.length = k + 1 := by omega
      rw [← hk] at w h5 ⊢
      clear hk
      have hln : (al.take k).length + ((bl.drop 1).length + 1) = (al.take k).length + 1 + (bl.drop 1).length := by omega
      have hlt : (al.take k).length ≤ 1000000 := by rw [List.length_take]; omega
      have hld : (bl.drop 1).length ≤ 1000000 := by rw [List.length_drop]; omega
      simp (maxSteps := 4000000) only [↓wpA_H, ↓wpH_skip, ↓wpH_ret, ↓wpH_seq, ↓wpH_cond, ↓wpH_region, bselH_true, ↓iselH_false, bselH_false, runH_nil, runH_cons, gw, gselH_plain, gselH_if, kselH_1, cselH_bool, gkind, ↓chk, justK, noW, ↓oneK, ↓pureK, ↓heapK, envOf, ↓thenA_normal, ↓stepEv, opnd, Pg.look, binK, intOp, strOp, dstOf, Bool.false_eq_true, implies_true, imp_self, true_and, and_true, forall_const, pickC, pickV, unc, gof, mux, mergeK, condsL, valV, heapV, footV, binV, intV, strV, cutV, alives, closeQ_nil, diagQ_zero, Nat.reduceAdd, mergeable, look_stripE, ofV, ofLeaf, sameK, retA, resK, tupA, subA, subQ, ptrsE, frzO, subF, subG, pickOf, frzE, frzC, frzL, frz0, frzH, Pg.freeze, List.foldl_nil, List.foldl_cons, subOs, subEv, subV_succ, subM, subL, slen, srcV, srcE, appK, ldCells, objAt, sliceL, res_succ, resM, AV.cells, TK.cells, AV.definite, AV.leaf, AV.leafy, putCells, lay, buildL, frzAt, Op.operands, Call.operands, Array.toList_append, List.getElem?_toArray, List.getElem?_cons_succ, List.getElem?_cons_zero, Option.bind_some, Option.map_some, Option.map_none, Option.getD_some, reduceCtorEq, Nat.reduceEqDiff, Nat.reduceAdd, List.nil_append, List.append_nil, List.cons_append, List.length_cons, List.length_nil, List.map_cons, List.map_nil, List.set_cons_zero, List.set_cons_succ, Nat.zero_add, Int.reduceToNat, ite_true, ite_false, Option.some.injEq, Option.isSome_some, AV.int.injEq, AV.agg.injEq, Bool.if_true_left, Bool.decide_eq_true, not_false_eq_true, List.all_cons, List.all_nil, Bool.and_self, and_self, Bool.not_eq_true', exists_eq_left', pickOK_nil, List.length_map, List.toList_toArray, List.length_append, rg1, not_mem_nil, app_strs, Int.reduceLE, app1_str, pureB_strs, leafy_strs, resIn, List.contains_cons, List.contains_nil, Nat.reduceBEq, Bool.or_self, Bool.or_false, beq_self_eq_true, Bool.or_true, Nat.reducePow, ← List.map_drop, ← List.map_take, getD_str, Int.toNat_natCast, List.getD_cons_zero, cutL, List.drop_zero, List.drop_succ_cons, List.take_succ_cons, List.take_zero, Nat.add_zero, Nat.sub_zero, Nat.reduceLeDiff, Nat.le_refl, Nat.mul_one, List.drop_nil, List.take_nil, Nat.zero_lt_succ, regH_none, isNext, nextF, nextG, selC_false, mapAt, List.append_assoc, tk3, tk9, dz9, eb9, tk50, tk52, tz52, dz52, hc, h2, w, hln]
      refine ⟨⟨by omega, by omega⟩, by omega, ⟨by omega, by omega⟩, by omega, by omega, ⟨by decide, by omega⟩, by kernel_rfl, by omega, by omega⟩
def kXJoin : C1 := C1.by [.ag [none, some 1], .ag [none, some 1]] (lCons cRgV (lOne cRgV)) (fun d => fitR d.1.2 ∧ fitR d.2.2) (fun d => aRg (joinR d.1 d.2)) (fun _ => [])
theorem ok_XJoin : C1OK Try.prog 30 kXJoin := C1OK.by (by kernel_rfl) (fun d h => calls_XJoin d.1 d.2 h.1 h.2) (fun _ => rfl) (fun _ => rfl)

theorem calls_HPlaceR (k n : Int) (h0 : 0 < n) (h1 : n ≤ 9223372036854775807) (hk : -9223372036854775808 ≤ k ∧ k ≤ 9223372036854775807) :
    CallsR Try.prog 26 [.int .i64 k, .int .i64 n] [] (.int .i64 (k % n)) [] := by
  refine callsR_of (mrg := true) (dyn := []) (CtrOK.nil _) mixed Try.func26 rfl (by simp [Try.ntmps26]) (by kernel_rfl) ?_
  rw [show Try.f26.results.toList = [.tmp 4] from by kernel_rfl]
  simp (maxSteps := 4000000) only [↓wpA_H, ↓wpH_skip, ↓wpH_ret, ↓wpH_seq, ↓wpH_cond, ↓wpH_region, iselH_if, bselH_false, runH_nil, runH_cons, gw, gselH_plain, cselH_bool, ↓chk, justK, ↓oneK, ↓pureK, envOf, ↓thenA_normal, ↓stepEv, opnd, Pg.look, binK, intOp, Bool.false_eq_true, implies_true, true_and, and_true, valV, heapV, footV, binV, intV, alives, closeQ_nil, diagQ_zero, ofV, ofLeaf, retA, resK, tupA, subA, subQ, ptrsE, frzO, subF, subG, pickOf, frzE, frzC, frz0, frzH, Pg.freeze, List.foldl_nil, subOs, subEv, subV_succ, subM, reduceCtorEq, Nat.reduceEqDiff, List.append_nil, List.length_nil, Nat.zero_add, ite_true, ite_false, decide_eq_true_eq, decide_eq_false_iff_not, Int.not_lt, ne_eq, and_self, pickOK_nil, List.contains_nil, regH_none, isNext, nextF, nextG, selC_false]
  have a1 := Int.emod_nonneg k (b := n) (by omega)
  have a2 := Int.emod_lt_of_pos k (b := n) h0
  have a3 : k.tmod n = k % n ∨ k.tmod n = k % n - n := by
    rw [Int.tmod_eq_emod]
    split
    · left; omega
    · right; omega
  refine ⟨by omega, fun h => ?_, fun h => ?_⟩
  · rw [wrap64 (by omega) (by omega)]; omega
  · omega
def kHPlaceR : C1 := C1.by [.id, .id] (lCons (cInt .i64) (lOne (cInt .i64))) (fun d => 0 < d.2 ∧ d.2 ≤ 9223372036854775807 ∧ -9223372036854775808 ≤ d.1 ∧ d.1 ≤ 9223372036854775807) (fun d => .int .i64 (d.1 % d.2)) (fun _ => [])
theorem ok_HPlaceR : C1OK Try.prog 26 kHPlaceR := C1OK.by (by kernel_rfl) (fun d h => calls_HPlaceR d.1 d.2 h.1 h.2.1 h.2.2) (fun _ => rfl) (fun _ => rfl)

theorem lsz_all (l : LsR) (h : ∀ s ∈ l, s.length ≤ 140737488351232) : lsz l ≤ l.length * 140737488351233 := by
  induction l with
  | nil => simp [lsz]
  | cons a l ih =>
    have h1 := h a List.mem_cons_self
    have h2 := ih fun s hs => h s (List.mem_cons_of_mem _ hs)
    rw [lsz_cons, List.length_cons]
    omega
theorem cLaw19J : CtrOK Try.prog [(26, kHPlaceR), (27, kKnown19), (28, kRJoin), (30, kXJoin), (31, kRgSize), (32, kLSize), (29, kHReg)] :=
  CtrOK.cons ok_HPlaceR (CtrOK.cons ok_known19 (CtrOK.cons ok_RJoin (CtrOK.cons ok_XJoin (CtrOK.cons ok_RgSize (CtrOK.cons ok_LSizeR (CtrOK.cons ok_HReg (CtrOK.nil _)))))))

set_option maxRecDepth 20000 in
set_option maxHeartbeats 8000000 in
theorem calls_RegsJoin (a b : RgV) (ha : (-9223372036854775808 ≤ a.1 ∧ a.1 ≤ 9223372036854775807) ∧ a.2.length ≤ 8796093021952 ∧ ∀ s ∈ a.2, s.length ≤ 140737488351232) (hb : (-9223372036854775808 ≤ b.1 ∧ b.1 ≤ 9223372036854775807) ∧ b.2.length ≤ 8796093021952 ∧ ∀ s ∈ b.2, s.length ≤ 140737488351232) :
    CallsR Try.prog 8 [aRg a, aRg b] [] (.bool true) [] := by
  refine callsR_of (mrg := true) (dyn := [5]) (cLaw19J) mixed Try.func8 rfl (by simp [Try.ntmps8]) (by kernel_rfl) ?_
  rw [show Try.f8.results.toList = [.tmp 4] from by kernel_rfl]
  obtain ⟨ak, al⟩ := a
  obtain ⟨bk, bl⟩ := b
  have ha1 := ha.1
  have hb1 := hb.1
  by_cases hl : al.length > 20 ∨ bl.length > 20
  · have hc : (decide ((al.length : Int) > 20) || decide ((bl.length : Int) > 20)) = true := by
      simp only [Bool.or_eq_true, decide_eq_true_eq]; omega
    simp (maxSteps := 4000000) only [↓wpA_H, ↓wpH_skip, ↓wpH_ret, ↓wpH_seq, ↓wpH_cond, ↓wpH_region, ↓iselH_true, ↓iselH_false, bselH_false, runH_nil, runH_cons, gw, gselH_plain, gselH_if, kselH_1, cselH_bool, gkind, ↓chk, justK, noW, ↓oneK, ↓pureK, ↓heapK, envOf, ↓thenA_normal, ↓thenA_ret, ↓stepEv, opnd, Pg.look, binK, intOp, dstOf, Bool.not_true, Bool.false_eq_true, false_implies, implies_true, imp_self, true_and, and_true, pickC, pickV, unc, gof, mux, mergeK, condsL, valV, heapV, footV, binV, intV, alives, closeQ_nil, diagQ_zero, Nat.reduceAdd, mergeable, look_stripE, ofV, ofLeaf, sameK, retA, resK, tupA, subA, subQ, ptrsE, frzO, subF, subG, pickOf, frzE, frzC, frz0, frzH, Pg.freeze, List.foldl_nil, subOs, subEv, subV_succ, subM, slen, ldCells, objAt, ↓callT, callC, callV, callH, normArgs, resL, shiftR, shift1, AV.cells, TK.cells, AV.definite, Op.operands, Call.operands, Array.toList_append, List.getElem?_toArray, List.getElem?_cons_succ, List.getElem?_cons_zero, Option.bind_some, Option.getD_some, reduceCtorEq, Nat.reduceEqDiff, Nat.reduceAdd, List.nil_append, List.append_nil, List.cons_append, List.length_cons, List.length_nil, List.map_nil, Nat.zero_add, ite_true, ite_false, Option.some.injEq, AV.int.injEq, Prod.mk.injEq, Bool.if_true_left, decide_eq_true_eq, decide_eq_false_iff_not, Int.not_lt, Bool.and_self, and_self, Bool.not_eq_true', exists_eq_left', pickOK_nil, List.length_map, List.toList_toArray, lNil_dec, List.contains_cons, List.contains_nil, Nat.reduceBEq, Bool.or_self, List.range'_zero, C1by_ns, C1by_pre, C1by_r, C1by_H, optP_some, optV_some, optH_some, List.getD_cons_zero, Nat.zero_lt_succ, C1by_it, regH_none, isNext, nextF, nextG, selC_false, ↓msel, muC, ↓callP, C1by_mu, tk50, tk52, dz52, kKnown19, kHPlaceR, kRJoin, kXJoin, kRgSize, kLSize, kHReg, hc]
  have hc : (decide ((al.length : Int) > 20) || decide ((bl.length : Int) > 20)) = false := by
    simp only [Bool.or_eq_false_iff, decide_eq_false_iff_not]; omega
  have hla : al.length ≤ 20 := by omega
  have hlb : bl.length ≤ 20 := by omega
  have hza := lsz_all al ha.2.2
  have hzb := lsz_all bl hb.2.2
  have hfa : fitR al := ⟨by omega, by omega⟩
  have hfb : fitR bl := ⟨by omega, by omega⟩
  have hj := joinR_lsz (ak % 3, al) (bk % 3, bl)
  have hj1 : lsz (joinR (ak % 3, al) (bk % 3, bl)).2 ≤ lsz al + lsz bl := hj.1
  have hj2 : (joinR (ak % 3, al) (bk % 3, bl)).2.length ≤ al.length + bl.length := hj.2
  obtain ⟨r, hr⟩ : ∃ r, r = joinR (ak % 3, al) (bk % 3, bl) := ⟨_, rfl⟩
  rw [← hr] at hj1 hj2
  clear hj
  have hfr : fitR r.2 := ⟨by omega, by omega⟩
  obtain ⟨rk, rl⟩ := r
  simp (maxSteps := 4000000) only [↓wpA_H, ↓wpH_skip, ↓wpH_ret, ↓wpH_seq, ↓wpH_cond, ↓wpH_region, bselH_true, ↓iselH_false, bselH_false, runH_nil, runH_cons, gw, gselH_plain, gselH_if, kselH_1, cselH_bool, gkind, ↓chk, justK, noW, ↓oneK, ↓pureK, ↓heapK, envOf, ↓thenA_normal, ↓stepEv, opnd, Pg.look, binK, intOp, dstOf, Bool.not_true, Bool.false_eq_true, Bool.true_eq_false, false_implies, implies_true, imp_self, true_and, and_true, forall_const, pickC, pickV, unc, gof, mux, mergeK, condsL, valV, heapV, footV, binV, intV, alives, closeQ_nil, diagQ_zero, Nat.reduceAdd, mergeable, look_stripE, ofV, ofLeaf, sameK, retA, resK, tupA, subA, subQ, ptrsE, frzO, subF, subG, pickOf, frzE, frzC, frz0, frzH, Pg.freeze, List.foldl_nil, subOs, subEv, subV_succ, subM, slen, ldCells, objAt, ↓callT, callC, callV, callH, normArgs, normA, normC, normL, resL, res8_eq, res_succ, resM, shiftR, shift1, AV.cells, TK.cells, AV.definite, AV.leaf, AV.leafy, putCells, lay, Op.operands, Call.operands, Array.toList_append, List.getElem?_toArray, List.getElem?_cons_succ, List.getElem?_cons_zero, Option.bind_some, Option.getD_some, reduceCtorEq, Nat.reduceEqDiff, Nat.reduceAdd, List.nil_append, List.append_nil, List.cons_append, List.length_cons, List.length_nil, List.map_cons, List.map_nil, List.set_cons_zero, List.set_cons_succ, Nat.zero_add, ite_true, ite_false, Option.some.injEq, Option.isSome_none, AV.int.injEq, Prod.mk.injEq, Bool.if_true_left, decide_eq_true_eq, decide_eq_false_iff_not, Int.not_lt, List.all_cons, List.all_nil, Bool.and_self, and_self, Bool.not_eq_true', exists_eq_left', pickOK_nil, List.length_map, cInt_dec, List.toList_toArray, Int.reduceLE, Int.reduceLT, cSl_dec, cAgg_dec, lNil_dec, lOne_dec, lCons_dec, dec2_some, List.contains_cons, List.contains_nil, Nat.reduceBEq, Bool.or_self, Bool.or_false, beq_self_eq_true, List.range'_zero, decL_str, C1by_ns, C1by_pre, C1by_r, C1by_H, optP_some, optV_some, optH_some, List.getD_cons_zero, cutL, List.drop_zero, List.drop_succ_cons, List.take_succ_cons, List.take_zero, Nat.add_zero, Nat.sub_zero, Nat.reduceLeDiff, Nat.le_refl, List.drop_nil, List.take_nil, Nat.zero_lt_succ, C1by_it, regH_none, isNext, nextF, nextG, selC_true, selC_false, pureC, ↓msel, muC, ↓callP, C1by_mu, tk3, tk50, tk52, tz52, dz52, kKnown19, kHPlaceR, kRJoin, kXJoin, kRgSize, kLSize, kHReg, hc, ← hr]
  exact ⟨by kernel_rfl, ha1, hb1, ⟨hfa, hfb⟩, ⟨hfa, hfb⟩, by have h : rl.length ≤ al.length + bl.length := hj2; omega, hfr⟩
end Go.Pg
