/- A motion by n words is n motions by one: the law. -/
import Derived.Test.YtnnhelhadcfbcaaPgFx6
namespace Go.Pg
open Go Go.Proofs

set_option maxRecDepth 40000 in
set_option maxHeartbeats 8000000 in
theorem calls_WordsSteps (ls : Ls) (a b : Int) (n : Int) (big : Bool) (hs : ∀ i, (ls.getD i []).length ≤ 140737488355328) (ha : 0 ≤ a ∧ a < 65536) (hb : 0 ≤ b ∧ b < 65536) (hn : 0 ≤ n ∧ n < 256) :
    CallsR Try.prog 4 [.sl 1 (ls.map .str), .int .u16 a, .int .u16 b, .int .u8 n, .bool big] [] (.bool true) [] := by
  refine callsR_of (mrg := true) (dyn := [7]) (CtrOK.cons ok_known8 (CtrOK.cons ok_Text (CtrOK.cons ok_SPlace (CtrOK.cons ok_Next (CtrOK.cons ok_WBack (CtrOK.cons ok_Tail (CtrOK.nil _))))))) mixed Try.func4 rfl (by simp [Try.ntmps4]) (by kernel_rfl) ?_
  rw [show Try.f4.results.toList = [.tmp 10] from by kernel_rfl]
  cases ht : text ls with
  | false =>
    simp (maxSteps := 4000000) only [↓wpA_H, ↓wpH_skip, ↓wpH_ret, ↓wpH_seq, ↓wpH_cond, ↓wpH_region, ↓iselH_true, ↓iselH_false, bselH_false, runH_nil, runH_cons, gw, gselH_plain, cselH_bool, ↓chk, justK, ↓oneK, ↓pureK, envOf, ↓thenA_normal, ↓thenA_ret, ↓stepEv, opnd, Pg.look, Bool.not_false, Bool.not_true, Bool.false_eq_true, false_implies, implies_true, imp_self, true_and, and_true, valV, heapV, footV, ofV, ofLeaf, retA, resK, tupA, subA, subQ, ptrsE, frzO, subF, subG, pickOf, frzE, frzC, frz0, frzH, Pg.freeze, List.foldl_nil, subOs, subEv, subV_succ, subM, ↓callT, callC, callV, callH, normArgs, normA, normC, resL, res8_eq, res_succ, resM, shiftR, shift1, reduceCtorEq, Nat.reduceEqDiff, Nat.reduceAdd, List.nil_append, List.append_nil, List.length_nil, List.map_cons, List.map_nil, Nat.zero_add, ite_true, ite_false, Prod.mk.injEq, and_self, pickOK_nil, cSl_dec, lNil_dec, lOne_dec, List.contains_cons, List.contains_nil, Nat.reduceBEq, Bool.or_self, List.range'_zero, decL_str, C1by_ns, C1by_pre, C1by_r, C1by_H, optP_some, optV_some, optH_some, C1by_it, kKnown8, kText, ht]
    exact hs
  | true =>
    have hft := fits8 ht
    obtain ⟨hl0, hl1, hl2⟩ := few_of_text ht
    have hsm : small ls := fits_small hft (by omega) (by omega)
    have hpl := splace_place ls a b hl0 hb.1
    cases hpp : splace ls a b with | mk p1 p2
    rw [hpp] at hpl
    obtain ⟨t0, t1⟩ := tmod_pos n 6 hn.1 (by omega)
    have w1 : IntKind.i64.wrap (n.tmod 6) = n.tmod 6 := wrap64 (by omega) (by omega)
    have w2 : IntKind.i64.wrap (n.tmod 6 + 1) = n.tmod 6 + 1 := wrap64 (by omega) (by omega)
    obtain ⟨k, hk⟩ : ∃ k : Nat, n.tmod 6 + 1 = k := ⟨(n.tmod 6 + 1).toNat, by omega⟩
    have w3 : IntKind.i64.wrap (k : Int) = (k : Int) := wrap64 (by omega) (by omega)
    obtain ⟨LN, eN⟩ : ∃ L, behind (marksOf true true big ls) (p1, p2) false = L := ⟨_, rfl⟩
    obtain ⟨LB, eB⟩ : ∃ L, ahead (marksOf true true big ls) (p1, p2) = L := ⟨_, rfl⟩
    obtain ⟨LT, eT⟩ : ∃ L, behind (marksOf false false big ls) (p1, p2) false = L := ⟨_, rfl⟩
    simp (maxSteps := 4000000) only [↓wpA_H, ↓wpH_skip, ↓wpH_seq, ↓wpH_cond, ↓wpH_block, ↓wpH_loop, ↓wpH_region, bselH_true, ↓iselH_false, bselH_false, runH_nil, runH_cons, gw, gselH_plain, cselH_bool, ↓chk, justK, noW, ↓oneK, ↓pureK, ↓heapK, envOf, ↓thenA_normal, ↓stepEv, opnd, Pg.look, binK, intOp, Bool.not_true, Bool.false_eq_true, false_implies, implies_true, true_and, and_true, forall_const, valV, heapV, footV, binV, intV, ofV, ofLeaf, Pg.freeze, List.foldl_nil, ldCells, objAt, ↓callT, callC, callV, callH, normArgs, normA, normC, resL, res8_eq, res_succ, resM, shiftR, shift1, AV.cells, TK.cells, AV.definite, AV.leaf, AV.leafy, putCells, lay, List.getElem?_cons_succ, List.getElem?_cons_zero, Option.getD_some, reduceCtorEq, Nat.reduceEqDiff, Nat.reduceAdd, List.nil_append, List.append_nil, List.cons_append, List.length_cons, List.length_nil, List.map_cons, List.map_nil, List.set_cons_zero, List.set_cons_succ, Nat.zero_add, ite_true, ite_false, Option.some.injEq, Prod.mk.injEq, ne_eq, not_false_eq_true, List.all_cons, List.all_nil, Bool.and_self, and_self, exists_eq_left', cInt_dec, cSl_dec, lNil_dec, lOne_dec, lCons_dec, dec2_some, List.contains_cons, List.contains_nil, Nat.reduceBEq, Bool.or_self, Bool.or_false, beq_self_eq_true, List.range'_zero, decL_str, C1by_ns, C1by_pre, C1by_r, C1by_H, optP_some, optV_some, optH_some, List.getD_cons_zero, cutL, List.drop_zero, List.drop_succ_cons, List.take_succ_cons, List.take_zero, Nat.sub_zero, Nat.le_refl, List.drop_nil, List.take_nil, Nat.zero_lt_succ, C1by_it, tk3, tk5, tk36, tz36, dz36, kKnown8, kText, kSPlace, kNext, kBackS, kTail, aMove, aMv, aPos, ht, hpp, w1, w3, hk]
    refine ⟨hs, ⟨hl0, hsm, ha, hb⟩, by decide, by kernel_rfl, ?_⟩
    refine loopH_intro (α := Nat) (fun i => ([(0, .sl 1 (ls.map .str)), (4, .bool big), (11, .ptr 0 2 1 0 0), (12, .int .i64 k), (13, .ptr 1 2 1 0 0), (14, .ptr 2 2 1 0 0), (15, .ptr 3 2 1 0 0), (16, .bool (stepQ LN (p1, p2) i).2), (17, .bool (stepQ LB (p1, p2) i).2), (18, .bool (stepQ LT (p1, p2) i).2), (19, .int .i64 i)], [.arr 36 2 [.agg [.int .i64 p1, .int .i64 p2]], .arr 36 2 [aPos (stepQ LN (p1, p2) i).1], .arr 36 2 [aPos (stepQ LB (p1, p2) i).1], .arr 36 2 [aPos (stepQ LT (p1, p2) i).1]])) (fun i => i ≤ k) (fun i => k - i) 0 (by omega) ?_ ?_
    · simp (maxSteps := 4000000) only [Pg.look, true_and, and_true, subA, subQ, ptrsE, pairsO, frzO, subF, subG, pickOf, assocN, pairsE, pairsC, pairsL, pairs0, frzE, frzC, frzL, frz0, frzH, Pg.freeze, List.foldl_nil, subOs, subO, subEv, subV_succ, subM, List.getElem?_cons_succ, List.getElem?_cons_zero, reduceCtorEq, Nat.reduceEqDiff, Nat.reduceAdd, List.nil_append, List.append_nil, List.cons_append, Nat.zero_add, ite_true, ite_false, and_self, Int.cast_ofNat_Int, Nat.lt_irrefl, Nat.not_lt_zero, aPos]
      exact ⟨by decide, ⟨subX_eq rfl rfl, subX_eq (by simp [stepQ]) rfl, subX_eq (by simp [stepQ]) rfl, subX_eq (by simp [stepQ]) rfl⟩, by simp [stepQ], by simp [stepQ], by simp [stepQ]⟩
    have mN : ∀ q ∈ LN, place ls q.1 q.2 = true := fun q hq => by rw [← eN] at hq; exact mark_place (List.mem_filter.1 hq).1
    have mB : ∀ q ∈ LB, place ls q.1 q.2 = true := fun q hq => by rw [← eB] at hq; exact mark_place (List.mem_reverse.1 (List.mem_filter.1 hq).1)
    have mT : ∀ q ∈ LT, place ls q.1 q.2 = true := fun q hq => by rw [← eT] at hq; exact mark_place (List.mem_filter.1 hq).1
    have sN : ∀ i, (stepQ LN (p1, p2) i).2 = true → ((wNext ls (stepQ LN (p1, p2) i).1 1 big false).1.1, (wNext ls (stepQ LN (p1, p2) i).1 1 big false).2) = stepQ LN (p1, p2) (i + 1) := fun i h => by
      rw [wNext_plain _ _ _ _ (may_one (stepQ_place mN hpl i h) (by omega))]
      have := seq_step (fun q => behind (marksOf true true big ls) q false) (fun p i q h => behind_drop _ (marksOf_sorted _ _ _ _) p i q h) (p1, p2) i (by rw [eN]; exact stepQ_le h) 0
      rw [eN] at this
      exact this
    have sB : ∀ i, (stepQ LB (p1, p2) i).2 = true → ((wBackM ls (stepQ LB (p1, p2) i).1 1 true true big 0).1.1, (wBackM ls (stepQ LB (p1, p2) i).1 1 true true big 0).2) = stepQ LB (p1, p2) (i + 1) := fun i h => by
      rw [wBackM, if_pos (may_one (stepQ_place mB hpl i h) (by omega)), mBack_nth _ _ _ _ (marksOf_sorted _ _ _ _) (by omega)]
      have := seq_step (fun q => ahead (marksOf true true big ls) q) (fun p i q h => ahead_drop _ (marksOf_sorted _ _ _ _) p i q h) (p1, p2) i (by rw [eB]; exact stepQ_le h) 0
      rw [eB] at this
      exact this
    have sT : ∀ i, (stepQ LT (p1, p2) i).2 = true → ((rTail ls (stepQ LT (p1, p2) i).1 1 big false).1.1, (rTail ls (stepQ LT (p1, p2) i).1 1 big false).2) = stepQ LT (p1, p2) (i + 1) := fun i h => by
      rw [rTail, if_pos (may_one (stepQ_place mT hpl i h) (by omega))]
      have := seq_step (fun q => behind (marksOf false false big ls) q false) (fun p i q h => behind_drop _ (marksOf_sorted _ _ _ _) p i q h) (p1, p2) i (by rw [eT]; exact stepQ_le h) 1
      rw [eT] at this
      exact this
    intro i hi
    by_cases hlt : i < k
    · have hct : decide ((i : Int) < (k : Int)) = true := decide_eq_true (by omega)
      have fN := sN i
      have fB := sB i
      have fT := sT i
      have gN := fun h => stepQ_stop (L := LN) (p := (p1, p2)) (i := i) h
      have gB := fun h => stepQ_stop (L := LB) (p := (p1, p2)) (i := i) h
      have gT := fun h => stepQ_stop (L := LT) (p := (p1, p2)) (i := i) h
      generalize hqN : stepQ LN (p1, p2) i = qN at fN gN ⊢
      generalize hqB : stepQ LB (p1, p2) i = qB at fB gB ⊢
      generalize hqT : stepQ LT (p1, p2) i = qT at fT gT ⊢
      obtain ⟨⟨a1, a2⟩, x⟩ := qN
      obtain ⟨⟨b1, b2⟩, y⟩ := qB
      obtain ⟨⟨c1, c2⟩, z⟩ := qT
      generalize hv : wNext ls (a1, a2) 1 big false = v at fN
      generalize hw : wBackM ls (b1, b2) 1 true true big 0 = w at fB
      generalize hu : rTail ls (c1, c2) 1 big false = u at fT
      obtain ⟨⟨⟨v1, v2⟩, vw, vj, vt⟩, vk⟩ := v
      obtain ⟨⟨⟨w1', w2'⟩, ww, wj, wt⟩, wk⟩ := w
      obtain ⟨⟨⟨u1, u2⟩, uw, uj, ut⟩, uk⟩ := u
      simp only at fN fB fT gN gB gT
      cases x <;> cases y <;> cases z
      all_goals
        simp (maxSteps := 4000000) only [↓wpA_H, ↓wpH_skip, ↓wpH_seq, ↓wpH_cond, ↓wpH_block, ↓wpH_region, ↓iselH_true, ↓iselH_false, bselH_false, runH_nil, runH_cons, gw, gselH_plain, cselH_bool, ↓chk, justK, noW, ↓oneK, ↓pureK, ↓heapK, ↓thenA_normal, ↓blockA_normal, ↓stepEv, opnd, Pg.look, binK, intOp, Bool.false_eq_true, false_implies, implies_true, true_and, and_true, valV, heapV, footV, binV, intV, ofV, ofLeaf, subA, subQ, ptrsE, pairsO, frzO, subF, subG, pickOf, assocN, pairsE, pairsC, pairsL, pairs0, frzE, frzC, frzL, frz0, frzH, Pg.freeze, List.foldl_nil, subOs, subO, subEv, subV_succ, subM, ldCells, objAt, ↓callT, callC, callV, callH, normArgs, normA, normC, resL, res8_eq, res_succ, resM, shiftR, shift1, AV.cells, TK.cells, AV.definite, AV.leaf, AV.leafy, putCells, lay, List.getElem?_cons_succ, List.getElem?_cons_zero, Option.getD_some, reduceCtorEq, Nat.reduceEqDiff, Nat.reduceAdd, List.nil_append, List.append_nil, List.cons_append, List.length_cons, List.length_nil, List.map_cons, List.map_nil, List.set_cons_zero, List.set_cons_succ, Nat.zero_add, ite_true, ite_false, Option.some.injEq, Prod.mk.injEq, List.all_cons, List.all_nil, Bool.and_self, and_self, exists_eq_left', cInt_dec, cBool_dec, Int.reduceLE, cSl_dec, cAgg_dec, lOne_dec, lCons_dec, dec2_some, List.contains_cons, List.contains_nil, Nat.reduceBEq, Bool.or_self, List.range'_zero, decL_str, C1by_ns, C1by_pre, C1by_r, C1by_H, optP_some, optV_some, optH_some, List.getD_cons_zero, cutL, List.drop_zero, List.drop_succ_cons, List.take_succ_cons, List.take_zero, Nat.add_zero, Nat.sub_zero, Nat.reduceLeDiff, Nat.le_refl, Nat.lt_irrefl, List.drop_nil, List.take_nil, Nat.not_lt_zero, Nat.zero_lt_succ, C1by_it, tk36, dz36, tk39, tz39, dz39, kKnown8, kText, kSPlace, kNext, kBackS, kTail, aMove, aMv, aPos, hct, hv, hw, hu]
        have eN1 := by first | exact gN rfl | exact (fN rfl).symm
        have eB1 := by first | exact gB rfl | exact (fB rfl).symm
        have eT1 := by first | exact gT rfl | exact (fT rfl).symm
        try simp only [hft, true_and]
        refine ⟨i + 1, by omega, by omega, by decide, ?_⟩
        simp only [eN1, eB1, eT1]
        exact ⟨⟨subX_eq rfl rfl, subX_eq rfl rfl, subX_eq rfl rfl, subX_eq rfl rfl⟩, by first | rfl | trivial, by first | rfl | trivial, by first | rfl | trivial, by rw [wrap64 (by omega) (by omega)]; omega⟩
    · have hcf : decide ((i : Int) < (k : Int)) = false := decide_eq_false (by omega)
      have hik : i = k := by omega
      subst hik
      simp (maxSteps := 4000000) only [↓wpA_H, ↓wpH_ret, ↓wpH_exit, ↓wpH_seq, ↓wpH_cond, ↓wpH_region, ↓iselH_false, bselH_false, runH_nil, runH_cons, gw, gselH_plain, gselH_if, kselH_0, kselH_1, cselH_bool, gkind, ↓chk, pickO, justK, noW, ↓oneK, ↓pureK, ↓heapK, ↓thenA_normal, ↓thenA_exit, ↓blockA_exit, ↓stepEv, opnd, Pg.look, binK, intOp, cellsEq, leafEq, dstOf, Bool.and_true, Bool.false_eq_true, false_implies, implies_true, imp_self, true_and, and_true, pickC, pickV, unc, gof, mux, mergeK, condsL, valV, heapV, footV, binV, intV, mergeable, look_stripE, ofV, ofLeaf, sameK, retA, resK, tupA, subA, subQ, ptrsE, frzO, subF, subG, pickOf, frzE, frzC, frz0, frzH, Pg.freeze, List.foldl_nil, subOs, subEv, subV_succ, subM, ldCells, objAt, ↓callT, callC, callV, callH, normArgs, normA, normC, resL, res8_eq, res_succ, resM, shiftR, shift1, AV.cells, TK.cells, AV.definite, AV.leaf, AV.leafy, putCells, lay, Op.operands, List.getElem?_toArray, List.getElem?_cons_succ, List.getElem?_cons_zero, Option.bind_some, Option.getD_some, reduceCtorEq, Nat.reduceEqDiff, Nat.reduceAdd, List.nil_append, List.append_nil, List.cons_append, List.length_cons, List.length_nil, List.map_cons, List.map_nil, List.set_cons_zero, List.set_cons_succ, Nat.zero_add, ite_true, ite_false, Option.some.injEq, Prod.mk.injEq, Bool.if_false_right, Bool.if_true_left, Bool.decide_eq_true, List.all_cons, List.all_nil, Bool.and_self, and_self, Bool.not_eq_true', exists_eq_left', pickOK_nil, cInt_dec, cBool_dec, List.toList_toArray, cSl_dec, cAgg_dec, lOne_dec, lCons_dec, dec2_some, List.contains_cons, List.contains_nil, Nat.reduceBEq, Bool.or_self, List.range'_zero, decL_str, C1by_ns, C1by_pre, C1by_r, C1by_H, optP_some, optV_some, optH_some, List.getD_cons_zero, cutL, List.drop_zero, List.drop_succ_cons, List.take_succ_cons, List.take_zero, Nat.add_zero, Nat.sub_zero, Nat.reduceLeDiff, Nat.le_refl, List.drop_nil, List.take_nil, Nat.zero_lt_succ, C1by_it, tk4, tk36, dz36, eq36, tk39, tz39, dz39, kKnown8, kText, kSPlace, kNext, kBackS, kTail, aMove, aMv, aPos, hcf]
      have hmay : may ls (p1, p2) (i : Int) = true := by
        unfold may
        rw [hpl, Bool.true_and, decide_eq_true_eq]
        omega
      have qN := nth_stepQ LN (p1, p2) i (by omega) 0
      have qB := nth_stepQ LB (p1, p2) i (by omega) 0
      have qT := nth_stepQ LT (p1, p2) i (by omega) 1
      rw [← eN, ← wNext_plain ls (p1, p2) i big hmay, eN] at qN
      rw [← eB, ← mBack_nth _ _ _ _ (marksOf_sorted _ _ _ _) (by omega), ← if_pos (t := mBack (wBack (marksOf true true big ls) (p1, p2) i) 0) (e := mNone) hmay, ← wBackM, eB] at qB
      rw [← eT, ← if_pos (t := nth (behind (marksOf false false big ls) (p1, p2) false) i 1) (e := mNone) hmay, ← rTail, eT] at qT
      rw [← qN, ← qB, ← qT]
      generalize wNext ls (p1, p2) i big false = vN
      generalize wBackM ls (p1, p2) i true true big 0 = vB
      generalize rTail ls (p1, p2) i big false = vT
      obtain ⟨⟨⟨v1, v2⟩, vw, vj, vt⟩, vk⟩ := vN
      obtain ⟨⟨⟨w1', w2'⟩, ww, wj, wt⟩, wk⟩ := vB
      obtain ⟨⟨⟨u1, u2⟩, uw, uj, ut⟩, uk⟩ := vT
      refine ⟨⟨hft, by omega⟩, hft, ⟨hft, by omega⟩, ?_⟩
      simp
end Go.Pg
