/- A line that is parted, and joined again with nothing between, is as it was, where it had no blanks there. -/
import Derived.Test.YtefihnkbelhneaaDoorPgFs48
import Derived.Test.YtefihnkbelhneaaDoorPgFs14
import Derived.Test.YtefihnkbelhneaaDoorPgFs25
namespace Go.Pg
open Go Go.Proofs

theorem small_nn : small ([[], []] : Ls) := ⟨by decide, fun i => by match i with
  | 0 => decide
  | 1 => decide
  | i + 2 => simp⟩

set_option maxRecDepth 20000 in
set_option maxHeartbeats 4000000 in
theorem calls_EditParts (ls : Ls) (a b : Int) (hs : ∀ i, (ls.getD i []).length ≤ 140737488355328) (ha : 0 ≤ a ∧ a < 65536) (hb : 0 ≤ b ∧ b < 65536) :
    CallsR Tryd.prog 5 [.sl 1 (ls.map .str), .int .u16 a, .int .u16 b] [] (.bool true) [] := by
  refine callsR_of (mrg := true) (dyn := []) (CtrOK.cons ok_eknown (CtrOK.cons ok_Text (CtrOK.cons ok_SPlace (CtrOK.cons ok_Write (CtrOK.cons ok_Apply (CtrOK.cons ok_Join (CtrOK.cons ok_ROf (CtrOK.nil _)))))))) mixed Tryd.func5 rfl (by simp [Tryd.ntmps5]) (by kernel_rfl) ?_
  rw [show Tryd.f5.results.toList = [.tmp 6] from by kernel_rfl]
  cases ht : Pg.text ls with
  | false =>
    simp (maxSteps := 4000000) only [↓wpA_H, ↓wpH_skip, ↓wpH_ret, ↓wpH_seq, ↓wpH_cond, ↓wpH_region, ↓iselH_true, ↓iselH_false, bselH_false, runH_nil, runH_cons, gw, gselH_plain, cselH_bool, ↓chk, justK, ↓oneK, ↓pureK, envOf, ↓thenA_normal, ↓thenA_ret, ↓stepEv, opnd, Pg.look, Bool.not_false, Bool.not_true, Bool.false_eq_true, false_implies, implies_true, imp_self, true_and, and_true, valV, heapV, footV, ofV, ofLeaf, retA, resK, tupA, subA, subQ, ptrsE, frzO, subF, subG, pickOf, frzE, frzC, frz0, frzH, Pg.freeze, List.foldl_nil, subOs, subEv, subV_succ, subM, ↓callT, callC, callV, callH, normArgs, normA, normC, resL, res8_eq, res_succ, resM, shiftR, shift1, reduceCtorEq, Nat.reduceEqDiff, Nat.reduceAdd, List.nil_append, List.append_nil, List.length_nil, List.map_cons, List.map_nil, Nat.zero_add, ite_true, ite_false, Prod.mk.injEq, and_self, pickOK_nil, cSl_dec, lNil_dec, lOne_dec, List.contains_nil, List.range'_zero, decL_str, C1by_ns, C1by_pre, C1by_r, C1by_H, optP_some, optV_some, optH_some, kEKnown, kText, ht]
    exact hs
  | true =>
    have hft := fits_text ht
    obtain ⟨hl0, hl1, hl2⟩ := few_of_text ht
    have hsm : small ls := fits_small hft (by omega) (by omega)
    have hfw : few ls := ⟨by omega, fun i => by have := hl2 i; omega⟩
    have hpl := splace_place ls a b hl0 hb.1
    generalize hp : splace ls a b = p at hpl
    obtain ⟨p1, p2⟩ := p
    simp only at hpl
    have hpl2 := (place_iff ..).1 hpl
    have e1 := write_two ls p1 p2 hpl
    have e2 := applyL_at ls p1 [(ls.getD p1.toNat []).take p2.toNat, (ls.getD p1.toNat []).drop p2.toNat] hpl2.1 hpl2.2.1 (by simp)
    have hsl := hl2 p1.toNat
    have w1 : IntKind.i64.wrap (p1 + 1) = p1 + 1 := wrap64 (by omega) (by omega)
    have w2 : IntKind.i64.wrap ((ls.length : Int) + 1) = ((ls.length + 1 : Nat) : Int) := by rw [wrap64 (by omega) (by omega)]; rfl
    have w3 : IntKind.i64.wrap (p2 - 1) = p2 - 1 := wrap64 (by omega) (by omega)
    obtain ⟨s, hs0⟩ : ∃ s, ls.getD p1.toNat [] = s := ⟨_, rfl⟩
    obtain ⟨A, hA⟩ : ∃ A, s.take p2.toNat = A := ⟨_, rfl⟩
    obtain ⟨B, hB⟩ : ∃ B, s.drop p2.toNat = B := ⟨_, rfl⟩
    rw [hs0] at e1 e2 hsl hpl2
    rw [hA, hB] at e1 e2
    have hAl : A.length = p2.toNat := by rw [← hA, List.length_take]; omega
    have hBl : B.length = s.length - p2.toNat := by rw [← hB, List.length_drop]
    obtain ⟨now, hnow⟩ : ∃ now, ls.take p1.toNat ++ [A, B] ++ ls.drop (p1.toNat + 1) = now := ⟨_, rfl⟩
    rw [hnow] at e2
    have hnl : now.length = ls.length + 1 := by rw [← hnow]; simp; omega
    have htk : (ls.take p1.toNat).length = p1.toNat := by rw [List.length_take]; omega
    have g1 : now.getD p1.toNat [] = A := by
      rw [← hnow, List.getD_eq_getElem?_getD, List.append_assoc, List.getElem?_append_right (by omega), htk]; simp
    have g2 : now.getD (p1 + 1).toNat [] = B := by
      rw [← hnow, List.getD_eq_getElem?_getD, List.append_assoc, List.getElem?_append_right (by omega), htk, show (p1 + 1).toNat - p1.toNat = 1 by omega]; simp
    have hnf : few now := by
      refine ⟨by omega, fun i => ?_⟩
      rw [← hnow, List.getD_eq_getElem?_getD, List.append_assoc, List.getElem?_append]
      split
      · rw [List.getElem?_take]
        split
        · rw [← List.getD_eq_getElem?_getD]; exact hfw.2 i
        · simp
      · match i - (ls.take p1.toNat).length with
        | 0 => simp; omega
        | 1 => simp; omega
        | j + 2 =>
          simp only [List.cons_append, List.nil_append, List.getElem?_cons_succ, List.getElem?_drop]
          rw [← List.getD_eq_getElem?_getD]; exact hfw.2 _
    obtain ⟨J, jc, hJ⟩ : ∃ J jc, joinStep (A, 0) B = (J, jc) := ⟨_, _, rfl⟩
    have e3 : join now p1 2 = ((p1, [A, B], [J]), jc, true) := by
      have hc : (decide ((2 : Int) < 2) || decide (p1 < 0) || decide (p1 ≥ (now.length : Int)) || decide ((2 : Int) > (now.length : Int) - p1)) = false := by
        simp only [Bool.or_eq_false_iff, decide_eq_false_iff_not]; omega
      have e : join now p1 2 = _ := if_neg (by rw [hc]; decide)
      have c1 : cutL now (p1 + 1).toNat (p1 + 2).toNat = [B] := by
        unfold cutL
        rw [show (p1 + 2).toNat - (p1 + 1).toNat = 1 by omega, take1_drop now (p1 + 1).toNat [] (by omega), g2]
      have c2 : cutL now p1.toNat (p1 + 2).toNat = [A, B] := by
        unfold cutL
        rw [show (p1 + 2).toNat - p1.toNat = 1 + 1 by omega, take_drop_succ now p1.toNat 1 (by omega), take1_drop now p1.toNat [] (by omega), g1, show p1.toNat + 1 = (p1 + 1).toNat by omega, g2]; rfl
      rw [e]
      simp only [c1, c2, g1, List.foldl_cons, List.foldl_nil, hJ]
    have hj1 : J = (if spaced A (trimL B) = true then A ++ [32] else A) ++ trimL B := by have := congrArg Prod.fst hJ; exact this.symm
    have hj2 : jc = if spaced A (trimL B) = true then (A.length : Int) else if (trimL B == []) = true then max ((A.length : Int) - 1) 0 else A.length := by have := congrArg Prod.snd hJ; exact this.symm
    have q1 : decide (jc < 0) = false := by
      rw [decide_eq_false_iff_not, hj2]; split
      · omega
      · split <;> omega
    have q2 : decide (jc > (J.length : Int)) = false := by
      rw [decide_eq_false_iff_not, hj2, hj1]; split
      · simp; omega
      · split <;> simp <;> omega
    have hfin : (decide (p2 > 0) && decide (p2 < (s.length : Int)) && cls ((s.getD (p2 - 1).toNat 0).toNat : Int) true != 0 && cls ((s.getD p2.toNat 0).toNat : Int) true != 0 && ((s.getD p2.toNat 0).toNat : Int) != 41) = true → J = A ++ [32] ++ B ∧ jc = p2 := by
      intro h
      simp only [Bool.and_eq_true, decide_eq_true_eq] at h
      obtain ⟨⟨⟨⟨h1, h2⟩, h3⟩, h4⟩, h5⟩ := h
      have b0 : B.getD 0 0 = s.getD p2.toNat 0 := by rw [← hB, List.getD_eq_getElem?_getD, List.getElem?_drop, ← List.getD_eq_getElem?_getD]; rfl
      have a0 : A.getD (A.length - 1) 0 = s.getD (p2 - 1).toNat 0 := by
        rw [hAl, ← hA, List.getD_eq_getElem?_getD, List.getElem?_take_of_lt (by omega), ← List.getD_eq_getElem?_getD]
        congr 1; omega
      have hBn : B ≠ [] := fun e => by rw [e] at hBl; simp at hBl; omega
      have hAn : A ≠ [] := fun e => by rw [e] at hAl; simp at hAl; omega
      have ht : trimL B = B := (trimL_step B).2.2 hBn (by rw [b0]; simpa using h4)
      have hsp : spaced A B = true := by
        simp only [spaced, a0, b0, h3, h5, Bool.and_true]
        simp [hAn, hBn]
      rw [hj1, hj2, ht, if_pos hsp, if_pos hsp]
      exact ⟨rfl, by omega⟩
    simp (maxSteps := 4000000) only [↓wpA_H, ↓wpH_skip, ↓wpH_ret, ↓wpH_seq, ↓wpH_cond, ↓wpH_region, ↓iselH_false, iselH_if, bselH_false, runH_nil, runH_cons, gw, gselH_plain, gselH_if, kselH_1, cselH_bool, gkind, ↓chk, justK, noW, ↓oneK, ↓pureK, ↓heapK, envOf, ↓thenA_normal, ↓thenA_ret, ↓stepEv, opnd, Pg.look, binK, intOp, strOp, cellsEq, leafEq, dstOf, Bool.not_false, Bool.not_true, Bool.false_eq_true, false_implies, implies_true, imp_self, true_and, and_true, forall_const, pickC, pickV, unc, gof, mux, mergeK, condsL, valV, heapV, footV, binV, intV, strV, cutV, mergeable, look_stripE, ofV, ofLeaf, sameK, retA, resK, tupA, subA, subQ, ptrsE, frzO, subF, subG, pickOf, frzE, frzC, frz0, frzH, Pg.freeze, List.foldl_nil, List.foldl_cons, subOs, subEv, subV_succ, subM, slen, ldCells, objAt, sliceS, ↓callT, callC, callV, callH, normArgs, normA, normC, normL, normE, resL, res8_eq, res_succ, resM, shiftR, shift1, AV.cells, TK.cells, AV.definite, AV.leaf, AV.leafy, AV.pureLeaf, AV.pureB, putCells, lay, buildL, frzAt, Op.operands, Call.operands, Array.toList_append, List.getElem?_toArray, List.getElem?_cons_succ, List.getElem?_cons_zero, Option.bind_some, Option.map_some, Option.map_none, Option.getD_some, reduceCtorEq, Nat.reduceEqDiff, Nat.reduceAdd, List.nil_append, List.append_nil, List.cons_append, List.length_cons, List.length_nil, List.map_cons, List.map_nil, List.set_cons_zero, List.set_cons_succ, Nat.zero_add, Int.reduceToNat, ite_true, ite_false, Option.some.injEq, Option.isSome_some, AV.int.injEq, AV.agg.injEq, Prod.mk.injEq, Bool.if_false_right, Bool.decide_eq_true, decide_eq_true_eq, decide_eq_false_iff_not, Int.not_lt, List.all_cons, List.all_nil, Bool.and_self, and_self, exists_eq_left', pickOK_nil, List.length_map, cInt_dec, cBool_dec, Option.toArray_some, Option.toArray_none, List.toList_toArray, List.length_append, rg1, rg2, Int.reduceLE, cStr_dec, cSl_dec, cAgg_dec, lNil_dec, lOne_dec, lCons_dec, dec2_some, List.contains_nil, beq_self_eq_true, decL_nil, decL_cons, consO_some, Int.cast_ofNat_Int, List.range'_zero, Nat.reducePow, bne_self_eq_false, decL_str, C1by_ns, C1by_pre, C1by_r, C1by_H, optP_some, optV_some, optH_some, getD_str, List.getD_cons_zero, cutL, List.drop_zero, List.drop_succ_cons, List.take_succ_cons, List.take_zero, Nat.add_zero, Nat.sub_zero, Nat.reduceLeDiff, Nat.le_refl, Nat.mul_one, Nat.one_mul, List.drop_nil, List.take_nil, Nat.zero_lt_succ, tk3, tk9, dz9, eb9, tk22, tk24, tz24, dz24, eq24, tk31, tz31, dz31, eb31, tk45, kEKnown, kText, kSPlace, kWrite, kApply, kOf, kJoin, ht, hp, aPos, aCh, e1, e2, e3, g1, g2, hnl, w1, w2, w3, hs0, hA, hB, q1, q2, bne_self_eq_false]
    refine ⟨hs, ⟨hl0, hsm, ha, hb⟩, by omega, ⟨hsm, small_nn⟩, ⟨by omega, fun x hx => ?_⟩, by omega, by omega, by omega, by omega, ⟨hnf, by omega, by omega⟩, fun h => ⟨h, ?_⟩, fun h => ⟨h, ?_⟩, fun h => ⟨h, ?_⟩, fun h => ?_⟩
    · simp only [List.mem_singleton] at hx
      subst hx
      exact ⟨by simp, by simp⟩
    · simp only [Bool.and_eq_true, decide_eq_true_eq] at h; omega
    · simp only [Bool.and_eq_true, decide_eq_true_eq] at h; omega
    · simp only [Bool.and_eq_true, decide_eq_true_eq] at h; omega
    · obtain ⟨z1, z2⟩ := hfin h
      refine ⟨by omega, by omega, by omega, by omega, ?_⟩
      rw [z1, z2]; simp
end Go.Pg
