/- The example of chapter 19. A letter in an empty file; plain. What two registers are together. The document's registers: set, asked. -/
import Derived.Test.YtohpkjpipihdoaaPgFx5
import Derived.Test.YtohpkjpipihdoaaPgFx2
namespace Go.Pg
open Go Go.Proofs

theorem cRegs : CtrOK Try.prog [(33, kRNew), (34, kRCut), (39, kRPut), (35, kRGet), (29, kHReg), (49, kNamesBQ), (31, kRgSize)] :=
  CtrOK.cons ok_RNew (CtrOK.cons ok_RCut (CtrOK.cons ok_RPut (CtrOK.cons ok_RGet (CtrOK.cons ok_HReg (CtrOK.cons ok_NamesBQ (CtrOK.cons ok_RgSize (CtrOK.nil _)))))))
abbrev xA : RgV := (1, [[120]])
abbrev xB : RgV := (1, [[121]])
theorem stock_nil : stockR [] := fun k v h => by cases h
set_option maxRecDepth 20000 in
set_option maxHeartbeats 8000000 in
theorem calls_known19 : CallsR Try.prog 27 [] [] (.bool true) [] := by
  refine callsR_of (mrg := false) (dyn := [6]) (cRegs) mixed Try.func27 rfl (by simp [Try.ntmps27]) (by kernel_rfl) ?_
  rw [show Try.f27.results.toList = [.tmp 0] from by kernel_rfl]
  obtain ⟨l1, h1⟩ : ∃ l : Rgs, l = [(49, xA), (34, xA)] := ⟨_, rfl⟩
  obtain ⟨l2, h2⟩ : ∃ l : Rgs, l = [(49, xB), (34, xB), (50, xA)] := ⟨_, rfl⟩
  have s1 : setR cutR [] 0 (1, [[120]]) = (0, l1) := by rw [h1]; rfl
  have s2 : setR cutR l1 0 (1, [[121]]) = (0, l2) := by rw [h1, h2]; rfl
  have s3 : putR l2 33 (1, [[120]]) = (23, l2) := by rw [h2]; rfl
  have g1 : look1 (gname 49) l2 = some (1, [[121]]) := by rw [h2]; rfl
  have g2 : look1 (gname 50) l2 = some (1, [[120]]) := by rw [h2]; rfl
  have hs : srt (keysQ l2) = [34, 49, 50] := by rw [h2]; exact (srt_perm (List.Perm.swap 34 49 [50])).trans (List.mergeSort_of_pairwise (by decide))
  have hn : l2.length = 3 := by rw [h2]; rfl
  have hz : lsz [[120]] = 2 := rfl
  have t1 : stockR l1 := fun k v h => by
    have : v = xA := by
      rw [h1] at h
      simp only [look1] at h
      split at h
      · cases h; rfl
      · split at h
        · cases h; rfl
        · cases h
    rw [this]; decide
  have t2 : stockR l2 := fun k v h => by
    have : v = xA ∨ v = xB := by
      rw [h2] at h
      simp only [look1] at h
      split at h
      · cases h; exact .inr rfl
      · split at h
        · cases h; exact .inr rfl
        · split at h
          · cases h; exact .inl rfl
          · cases h
    rcases this with h | h <;> rw [h] <;> decide
  clear h1 h2
  simp (maxSteps := 4000000) only [↓wpA_H, ↓wpH_skip, ↓wpH_ret, ↓wpH_seq, ↓wpH_cond, ↓wpH_region, bselH_true, ↓iselH_true, ↓iselH_false, bselH_false, runH_nil, runH_cons, ↓fixG, setG, gw, gselH_plain, gselH_if, kselH_2, cselH_bool, gkind, ↓chk, justK, noW, ↓oneK, ↓pureK, ↓heapK, envOf, ↓thenA_normal, ↓stepEv, opnd, Pg.look, binK, intOp, strOp, dstOf, Bool.and_true, Bool.not_false, Bool.not_true, Bool.false_eq_true, Bool.true_eq_false, false_implies, implies_true, true_and, and_true, forall_const, pickC, pickV, unc, gof, mux, valV, heapV, footV, binV, intV, strV, alives, closeQ_nil, diagQ_zero, Nat.reduceAdd, mergeable, ofV, ofLeaf, retA, resK, tupA, subA, subQ, ptrsE, frzO, subF, subG, pickOf, frzE, frzC, frz0, frzH, Pg.freeze, List.foldl_nil, List.foldl_cons, subOs, subEv, subV_succ, subM, srcV, srcL, ldCells, objAt, ↓callT, callC, callV, callH, normArgs, normA, normC, normL, resL, res8_eq, res_succ, resM, shiftR, shift1, AV.cells, TK.cells, AV.definite, AV.leaf, AV.leafy, AV.pureLeaf, AV.pureB, putCells, lay, buildL, frzAt, List.getElem?_toArray, List.getElem?_cons_succ, List.getElem?_cons_zero, Option.bind_some, Option.getD_some, reduceCtorEq, Nat.reduceEqDiff, Nat.reduceAdd, Nat.reduceLT, Nat.reduceSub, List.nil_append, List.append_nil, List.cons_append, List.length_cons, List.length_nil, List.map_cons, List.map_nil, List.set_cons_zero, List.set_cons_succ, Nat.zero_add, Int.reduceToNat, ite_true, ite_false, Option.some.injEq, Option.isSome_some, AV.str.injEq, AV.agg.injEq, Prod.mk.injEq, List.all_cons, List.all_nil, Bool.and_self, and_self, exists_eq_left', pickOK_nil, cInt_dec, rg1, length_ofBytes, cByte_lit, Int.reduceLE, Int.reduceLT, UInt8.reduceOfNat, bytesOf_ofBytes, cStr_dec, cSl_dec, cAgg_dec, lOne_dec, lCons_dec, dec2_some, List.contains_cons, List.contains_nil, Nat.reduceBEq, Bool.or_self, Bool.or_false, beq_self_eq_true, decL_nil, decL_cons, consO_some, List.range'_zero, Nat.reducePow, C1by_ns, C1by_pre, C1by_r, C1by_H, optP_some, optV_some, optH_some, List.getD_cons_zero, List.getD_cons_succ, cutL, List.drop_zero, List.drop_succ_cons, List.take_succ_cons, List.take_zero, Nat.sub_zero, Nat.sub_self, Nat.reduceLeDiff, Nat.le_refl, Nat.mul_one, List.drop_nil, List.take_nil, Nat.zero_lt_succ, C1by_it, regH_none, isNext, nextF, nextG, selC_false, ↓msel, muC, ↓callP, ↓callU, ↓callUV, ↓callUH, ↓callUF, C1by_mu, C1mby_mu, runM_eq, mkM_some, hNil_dec, hCons_dec, app3_some, hP_dec, hP1_some, hP2_some, hO1_some, hM1_mp, hMp_dec, hB1_some, hB2_arr, hBox_dec, hAgg_dec, decE_nil, encE_nil, pickF, nodupB, somes, fresh, gids, gid, putO, ren, renL, renO, List.range'_succ, tk5, tk9, eb9, tk32, tk50, tk52, tz52, dz52, pt58, kRNew, kRCut, kRPut, kRGet, kHReg, kNamesBQ, kRgSize, hFile, decE_rg, rgH, s1, s2, s3, g1, g2, hs, hz, hn, renL_bytes, length_ofBytes]
  exact ⟨⟨stock_nil, by decide, by decide⟩, ⟨t1, by decide, by decide⟩, ⟨t2, by decide, by decide⟩, by kernel_rfl, fun v h => by (cases h; decide), fun v h => by (cases h; decide), by decide, by decide⟩
def kKnown19 : C1 := C1.by [] lNil (fun _ => True) (fun _ => .bool true) (fun _ => [])
theorem ok_known19 : C1OK Try.prog 27 kKnown19 := C1OK.by (by kernel_rfl) (fun _ _ => calls_known19) (fun _ => rfl) (fun _ => rfl)
end Go.Pg
namespace Go.Pg
open Go Go.Proofs

theorem up_low {b : UInt8} (h : isUp b = true) : isLow b = false := by
  simp only [isUp, isLow, Bool.and_eq_true, decide_eq_true_eq, Bool.and_eq_false_iff, decide_eq_false_iff_not] at *
  omega
theorem up_ne {b : UInt8} (h : isUp b = true) : b ≠ 0 ∧ b ≠ 34 ∧ b ≠ 95 := by
  refine ⟨?_, ?_, ?_⟩ <;> (rintro rfl; revert h; decide)
theorem gname_up {b : UInt8} (h : isUp b = true) : gname b = b + 32 := by
  unfold gname
  rw [if_neg (up_ne h).1, if_pos h]
/-! ### A letter in an empty file -/
end Go.Pg
namespace Go.Pg
open Go Go.Proofs

set_option maxRecDepth 20000 in
set_option maxHeartbeats 4000000 in
theorem calls_XJoin (a b : RgV) (ha : fitR a.2) (hb : fitR b.2) : CallsR Try.prog 30 [aRg a, aRg b] [] (aRg (joinR a b)) [] := by
  refine callsR_of (mrg := true) (dyn := [2, 4, 6]) (CtrOK.nil _) mixed Try.func30 rfl (by simp [Try.ntmps30]) (by kernel_rfl) ?_
  rw [show Try.f30.results.toList = [.cell 4 52] from by kernel_rfl]
  obtain ⟨ak, al⟩ := a
  obtain ⟨bk, bl⟩ := b
  have ha1 : al.length ≤ 1000000 := ha.1
  have hb1 : bl.length ≤ 1000000 := hb.1
  have ha2 : ∀ i, (al.getD i []).length ≤ 1152921504606846976 := fun i => by have := lsz_getD al i; have h9 : lsz al ≤ 1152921504606846976 := ha.2; omega
  have hb2 : ∀ i, (bl.getD i []).length ≤ 1152921504606846976 := fun i => by have := lsz_getD bl i; have h9 : lsz bl ≤ 1152921504606846976 := hb.2; omega
  cases hc : (ak != 0 || bk != 0) with
  | true =>
    have hj : joinR (ak, al) (bk, bl) = (1, al ++ bl) := if_pos hc
    rw [hj]
    simp (maxSteps := 4000000) only [↓wpA_H, ↓wpH_ret, ↓wpH_seq, ↓wpH_cond, ↓wpH_region, bselH_true, ↓iselH_true, bselH_false, runH_nil, runH_cons, gw, gselH_plain, gselH_if, kselH_1, cselH_bool, gkind, ↓chk, justK, noW, ↓oneK, ↓pureK, ↓heapK, envOf, ↓thenA_normal, ↓thenA_ret, ↓stepEv, opnd, Pg.look, binK, intOp, dstOf, Bool.false_eq_true, implies_true, imp_self, true_and, and_true, forall_const, pickC, pickV, unc, gof, mux, mergeK, condsL, valV, heapV, footV, binV, intV, alives, closeQ_nil, diagQ_zero, Nat.reduceAdd, mergeable, look_stripE, ofV, ofLeaf, sameK, retA, resK, tupA, subA, subQ, ptrsE, frzO, subF, subG, pickOf, frzE, frzC, frzL, frz0, frzH, Pg.freeze, List.foldl_nil, List.foldl_cons, subOs, subEv, subV_succ, subM, subL, srcV, srcE, appK, ldCells, objAt, res_succ, resM, AV.cells, TK.cells, AV.definite, AV.leaf, AV.leafy, putCells, lay, buildL, frzAt, Op.operands, List.getElem?_toArray, List.getElem?_cons_succ, List.getElem?_cons_zero, Option.bind_some, Option.getD_some, reduceCtorEq, Nat.reduceEqDiff, Nat.reduceAdd, List.nil_append, List.append_nil, List.cons_append, List.length_cons, List.length_nil, List.map_cons, List.map_nil, List.set_cons_zero, List.set_cons_succ, Nat.zero_add, ite_true, ite_false, Option.some.injEq, Option.isSome_some, AV.agg.injEq, Bool.if_true_left, Bool.decide_eq_true, not_false_eq_true, List.all_cons, List.all_nil, Bool.and_self, and_self, Bool.not_eq_true', exists_eq_left', pickOK_nil, List.length_map, List.toList_toArray, List.length_append, not_mem_nil, app_strs, pureB_strs, leafy_strs, resIn, List.contains_cons, List.contains_nil, Nat.reduceBEq, Bool.or_self, Bool.or_false, beq_self_eq_true, List.getD_cons_zero, cutL, List.drop_zero, List.drop_succ_cons, List.take_succ_cons, List.take_zero, Nat.add_zero, Nat.sub_zero, Nat.reduceLeDiff, Nat.le_refl, List.drop_nil, List.take_nil, Nat.zero_lt_succ, regH_none, isNext, nextF, nextG, selC_false, mapAt, tk3, eb9, tk50, tk52, tz52, dz52, hc]
    exact ⟨by omega, by omega, by kernel_rfl⟩
  | false =>
    cases h2 : ((al.length : Int) == 0 || (bl.length : Int) == 0) with
    | true =>
      have hj : joinR (ak, al) (bk, bl) = (0, al ++ bl) := by
        unfold joinR
        rw [if_neg (by rw [show ((ak, al).1 != 0 || (bk, bl).1 != 0) = false from hc]; simp)]
        exact if_pos h2
      rw [hj]
      simp (maxSteps := 4000000) only [↓wpA_H, ↓wpH_skip, ↓wpH_ret, ↓wpH_seq, ↓wpH_cond, ↓wpH_region, bselH_true, ↓iselH_true, ↓iselH_false, bselH_false, runH_nil, runH_cons, gw, gselH_plain, gselH_if, kselH_1, cselH_bool, gkind, ↓chk, justK, noW, ↓oneK, ↓pureK, ↓heapK, envOf, ↓thenA_normal, ↓thenA_ret, ↓stepEv, opnd, Pg.look, binK, intOp, dstOf, Bool.false_eq_true, implies_true, imp_self, true_and, and_true, forall_const, pickC, pickV, unc, gof, mux, mergeK, condsL, valV, heapV, footV, binV, intV, alives, closeQ_nil, diagQ_zero, Nat.reduceAdd, mergeable, look_stripE, ofV, ofLeaf, sameK, retA, resK, tupA, subA, subQ, ptrsE, frzO, subF, subG, pickOf, frzE, frzC, frzL, frz0, frzH, Pg.freeze, List.foldl_nil, List.foldl_cons, subOs, subEv, subV_succ, subM, subL, slen, srcV, srcE, appK, ldCells, objAt, res_succ, resM, AV.cells, TK.cells, AV.definite, AV.leaf, AV.leafy, putCells, lay, buildL, frzAt, Op.operands, Call.operands, Array.toList_append, List.getElem?_toArray, List.getElem?_cons_succ, List.getElem?_cons_zero, Option.bind_some, Option.getD_some, reduceCtorEq, Nat.reduceEqDiff, Nat.reduceAdd, List.nil_append, List.append_nil, List.cons_append, List.length_cons, List.length_nil, List.map_cons, List.map_nil, List.set_cons_zero, List.set_cons_succ, Nat.zero_add, ite_true, ite_false, Option.some.injEq, Option.isSome_some, AV.int.injEq, AV.agg.injEq, Bool.if_true_left, Bool.decide_eq_true, not_false_eq_true, List.all_cons, List.all_nil, Bool.and_self, and_self, Bool.not_eq_true', exists_eq_left', pickOK_nil, List.length_map, List.toList_toArray, List.length_append, not_mem_nil, app_strs, pureB_strs, leafy_strs, resIn, List.contains_cons, List.contains_nil, Nat.reduceBEq, Bool.or_self, Bool.or_false, beq_self_eq_true, Bool.or_true, List.getD_cons_zero, cutL, List.drop_zero, List.drop_succ_cons, List.take_succ_cons, List.take_zero, Nat.add_zero, Nat.sub_zero, Nat.reduceLeDiff, Nat.le_refl, List.drop_nil, List.take_nil, Nat.zero_lt_succ, regH_none, isNext, nextF, nextG, selC_false, mapAt, tk3, eb9, tk50, tk52, tz52, dz52, hc, h2]
      exact ⟨by omega, by omega, by kernel_rfl⟩
    | false =>
      have hj : joinR (ak, al) (bk, bl) = (0, al.take (al.length - 1) ++ ((al.getD (al.length - 1) [] ++ bl.getD 0 []) :: bl.drop 1)) := by
        unfold joinR
        rw [if_neg (by rw [show ((ak, al).1 != 0 || (bk, bl).1 != 0) = false from hc]; simp)]
        exact if_neg (by rw [show (((ak, al).2.length : Int) == 0 || ((bk, bl).2.length : Int) == 0) = false from h2]; simp)
      rw [hj]
      have h3 := h2
      simp only [Bool.or_eq_false_iff, beq_eq_false_iff_ne, ne_eq] at h3
      have w : IntKind.i64.wrap ((al.length : Int) - 1) = ((al.length - 1 : Nat) : Int) := by rw [wrap64 (by omega) (by omega)]; omega
      have h5 := ha2 (al.length - 1)
      have h4 := hb2 0
      obtain ⟨k, hk⟩ : ∃ k, k = al.length - 1 := ⟨_, rfl⟩
      have hk2 : al.length = k + 1 := by omega
      rw [← hk] at w h5 ⊢
      clear hk
      have hln : (al.take k).length + ((bl.drop 1).length + 1) = (al.take k).length + 1 + (bl.drop 1).length := by omega
      have hlt : (al.take k).length ≤ 1000000 := by rw [List.length_take]; omega
      have hld : (bl.drop 1).length ≤ 1000000 := by rw [List.length_drop]; omega
      simp (maxSteps := 4000000) only [↓wpA_H, ↓wpH_skip, ↓wpH_ret, ↓wpH_seq, ↓wpH_cond, ↓wpH_region, bselH_true, ↓iselH_false, bselH_false, runH_nil, runH_cons, gw, gselH_plain, gselH_if, kselH_1, cselH_bool, gkind, ↓chk, justK, noW, ↓oneK, ↓pureK, ↓heapK, envOf, ↓thenA_normal, ↓stepEv, opnd, Pg.look, binK, intOp, strOp, dstOf, Bool.false_eq_true, implies_true, imp_self, true_and, and_true, forall_const, pickC, pickV, unc, gof, mux, mergeK, condsL, valV, heapV, footV, binV, intV, strV, cutV, alives, closeQ_nil, diagQ_zero, Nat.reduceAdd, mergeable, look_stripE, ofV, ofLeaf, sameK, retA, resK, tupA, subA, subQ, ptrsE, frzO, subF, subG, pickOf, frzE, frzC, frzL, frz0, frzH, Pg.freeze, List.foldl_nil, List.foldl_cons, subOs, subEv, subV_succ, subM, subL, slen, srcV, srcE, appK, ldCells, objAt, sliceL, res_succ, resM, AV.cells, TK.cells, AV.definite, AV.leaf, AV.leafy, putCells, lay, buildL, frzAt, Op.operands, Call.operands, Array.toList_append, List.getElem?_toArray, List.getElem?_cons_succ, List.getElem?_cons_zero, Option.bind_some, Option.map_some, Option.map_none, Option.getD_some, reduceCtorEq, Nat.reduceEqDiff, Nat.reduceAdd, List.nil_append, List.append_nil, List.cons_append, List.length_cons, List.length_nil, List.map_cons, List.map_nil, List.set_cons_zero, List.set_cons_succ, Nat.zero_add, Int.reduceToNat, ite_true, ite_false, Option.some.injEq, Option.isSome_some, AV.int.injEq, AV.agg.injEq, Bool.if_true_left, Bool.decide_eq_true, not_false_eq_true, List.all_cons, List.all_nil, Bool.and_self, and_self, Bool.not_eq_true', exists_eq_left', pickOK_nil, List.length_map, List.toList_toArray, List.length_append, rg1, not_mem_nil, app_strs, Int.reduceLE, app1_str, pureB_strs, leafy_strs, resIn, List.contains_cons, List.contains_nil, Nat.reduceBEq, Bool.or_self, Bool.or_false, beq_self_eq_true, Bool.or_true, Nat.reducePow, ← List.map_drop, ← List.map_take, getD_str, Int.toNat_natCast, List.getD_cons_zero, cutL, List.drop_zero, List.drop_succ_cons, List.take_succ_cons, List.take_zero, Nat.add_zero, Nat.sub_zero, Nat.reduceLeDiff, Nat.le_refl, Nat.mul_one, List.drop_nil, List.take_nil, Nat.zero_lt_succ, regH_none, isNext, nextF, nextG, selC_false, mapAt, List.append_assoc, tk3, tk9, dz9, eb9, tk50, tk52, tz52, dz52, hc, h2, w, hln]
      refine ⟨⟨by omega, by omega⟩, by omega, ⟨by omega, by omega⟩, by omega, by omega, ⟨by decide, by omega⟩, by kernel_rfl, by omega, by omega⟩
def kXJoin : C1 := C1.by [.ag [none, some 1], .ag [none, some 1]] (lCons cRgV (lOne cRgV)) (fun d => fitR d.1.2 ∧ fitR d.2.2) (fun d => aRg (joinR d.1 d.2)) (fun _ => [])
theorem ok_XJoin : C1OK Try.prog 30 kXJoin := C1OK.by (by kernel_rfl) (fun d h => calls_XJoin d.1 d.2 h.1 h.2) (fun _ => rfl) (fun _ => rfl)

theorem calls_HPlaceR (k n : Int) (h0 : 0 < n) (h1 : n ≤ 9223372036854775807) (hk : -9223372036854775808 ≤ k ∧ k ≤ 9223372036854775807) :
    CallsR Try.prog 26 [.int .i64 k, .int .i64 n] [] (.int .i64 (k % n)) [] := by
  refine callsR_of (mrg := true) (dyn := []) (CtrOK.nil _) mixed Try.func26 rfl (by simp [Try.ntmps26]) (by kernel_rfl) ?_
  rw [show Try.f26.results.toList = [.tmp 4] from by kernel_rfl]
  simp (maxSteps := 4000000) only [↓wpA_H, ↓wpH_skip, ↓wpH_ret, ↓wpH_seq, ↓wpH_cond, ↓wpH_region, iselH_if, bselH_false, runH_nil, runH_cons, gw, gselH_plain, cselH_bool, ↓chk, justK, ↓oneK, ↓pureK, envOf, ↓thenA_normal, ↓stepEv, opnd, Pg.look, binK, intOp, Bool.false_eq_true, implies_true, true_and, and_true, valV, heapV, footV, binV, intV, alives, closeQ_nil, diagQ_zero, ofV, ofLeaf, retA, resK, tupA, subA, subQ, ptrsE, frzO, subF, subG, pickOf, frzE, frzC, frz0, frzH, Pg.freeze, List.foldl_nil, subOs, subEv, subV_succ, subM, reduceCtorEq, Nat.reduceEqDiff, List.append_nil, List.length_nil, Nat.zero_add, ite_true, ite_false, decide_eq_true_eq, decide_eq_false_iff_not, Int.not_lt, ne_eq, and_self, pickOK_nil, List.contains_nil, regH_none, isNext, nextF, nextG, selC_false]
  have a1 := Int.emod_nonneg k (b := n) (by omega)
  have a2 := Int.emod_lt_of_pos k (b := n) h0
  have a3 : k.tmod n = k % n ∨ k.tmod n = k % n - n := by
    rw [Int.tmod_eq_emod]
    split
    · left; omega
    · right; omega
  refine ⟨by omega, fun h => ?_, fun h => ?_⟩
  · rw [wrap64 (by omega) (by omega)]; omega
  · omega
def kHPlaceR : C1 := C1.by [.id, .id] (lCons (cInt .i64) (lOne (cInt .i64))) (fun d => 0 < d.2 ∧ d.2 ≤ 9223372036854775807 ∧ -9223372036854775808 ≤ d.1 ∧ d.1 ≤ 9223372036854775807) (fun d => .int .i64 (d.1 % d.2)) (fun _ => [])
theorem ok_HPlaceR : C1OK Try.prog 26 kHPlaceR := C1OK.by (by kernel_rfl) (fun d h => calls_HPlaceR d.1 d.2 h.1 h.2.1 h.2.2) (fun _ => rfl) (fun _ => rfl)

theorem lsz_all (l : LsR) (h : ∀ s ∈ l, s.length ≤ 140737488351232) : lsz l ≤ l.length * 140737488351233 := by
  induction l with
  | nil => simp [lsz]
  | cons a l ih =>
    have h1 := h a List.mem_cons_self
    have h2 := ih fun s hs => h s (List.mem_cons_of_mem _ hs)
    rw [lsz_cons, List.length_cons]
    omega
end Go.Pg
namespace Go.Pg
open Go Go.Proofs

def aRs (l : List RgV) : List AV := l.map aRg
theorem length_aRs (l : List RgV) : (aRs l).length = l.length := by simp [aRs]
theorem take_aRs (l : List RgV) (n : Nat) : (aRs l).take n = aRs (l.take n) := by simp [aRs, List.map_take]
theorem drop_aRs (l : List RgV) (n : Nat) : (aRs l).drop n = aRs (l.drop n) := by simp [aRs, List.map_drop]
theorem app_aRs (l m : List RgV) : aRs l ++ aRs m = aRs (l ++ m) := by simp [aRs]
theorem cons_aRs (l : List RgV) (a : Int) (b : LsR) : .agg [.int .i64 a, .sl 1 (b.map .str)] :: aRs l = aRs ((a, b) :: l) := by simp [aRs]
theorem set_aRs (l : List RgV) (i : Nat) (a : Int) (b : LsR) : (aRs l).set i (.agg [.int .i64 a, .sl 1 (b.map .str)]) = aRs (l.set i (a, b)) := by simp [aRs, List.map_set]
theorem getD_aRs (l : List RgV) (i : Nat) : (aRs l).getD i (.agg [.int .i64 0, .sl 1 []]) = .agg [.int .i64 (l.getD i (0, [])).1, .sl 1 ((l.getD i (0, [])).2.map .str)] := getD_map aRg l i (0, [])
theorem aRg_pure (r : RgV) : (aRg r).pureB = true := by simp [AV.pureB, AV.cells, AV.pureLeaf]
theorem cRgV_pure (r : RgV) : (cRgV.enc r).pureB = true := aRg_pure r
theorem pureB_aRs (l : List RgV) : (aRs l).all AV.pureB = true := by simp [aRs, AV.pureB, AV.cells, AV.pureLeaf]
theorem leafy_aRs (l : List RgV) : (aRs l).all AV.leafy = true := by simp [aRs, AV.leafy, AV.cells, AV.leaf]
theorem decL_aRs (l : List RgV) : decL cRgV.dec (aRs l) = some l := decL_enc cRgV cRgV_ed l
theorem renL_aRs (g : Nat → Nat) (l : List RgV) : renL g (aRs l) = aRs l := renL_pure g _ (pureB_aRs l)
theorem neL_aRs (p : RgV) (l : List RgV) : neL (aRs (p :: l)) = true := rfl

abbrev zNr (z : Rgs) : List UInt8 := z.map (fun x => x.1)
abbrev zPr (z : Rgs) : List RgV := z.map (fun x => x.2)
def hXf : HC (List UInt8 × List RgV × Unit) := hPtr 70 2 (hCons (hOwn 5 1 cByte cByte_pure) (hCons (hOwn 52 2 cRgV cRgV_pure) hNil))
abbrev xH (n : List UInt8) (p : List RgV) : AH := [.arr 70 2 [.agg [.own 1 1 n.length, .own 2 2 p.length]], .arr 5 1 (ofBytes n), .arr 52 2 (aRs p)]
/-- The same behind a change: the lists are new ones. -/
abbrev xH' (n : List UInt8) (p : List RgV) : AH := [.arr 70 2 [.agg [.own 3 1 n.length, .own 4 2 p.length]], .dead, .dead, .arr 5 1 (ofBytes n), .arr 52 2 (aRs p)]

def gSet {ν : Type} (n : List UInt8) (ps : List ν) (b : UInt8) (p : ν) : List UInt8 × List ν :=
  if n.getD (lead b n) 0 = b ∧ lead b n < n.length then (n, ps.set (lead b n) p) else (n.take (lead b n) ++ b :: n.drop (lead b n), ps.take (lead b n) ++ p :: ps.drop (lead b n))
theorem gSet_z {ν : Type} (b : UInt8) (p : ν) (z : List (UInt8 × ν)) : gSet (z.map (fun x => x.1)) (z.map (fun x => x.2)) b p = ((zSet b p z).map (fun x => x.1), (zSet b p z).map (fun x => x.2)) := by
  induction z with
  | nil => simp [gSet, zSet, lead]
  | cons x r ih =>
    unfold gSet at ih ⊢
    by_cases hlt : x.1.toNat < b.toNat
    · have hl : lead b ((x :: r).map (fun x => x.1)) = lead b (r.map (fun x => x.1)) + 1 := by simp [lead, hlt]
      have hzs : zSet b p (x :: r) = x :: zSet b p r := by simp only [zSet, if_pos hlt]
      rw [hl, hzs]
      simp only [List.map_cons, List.getD_cons_succ, List.length_cons, List.set_cons_succ, List.take_succ_cons, List.drop_succ_cons, List.cons_append] at ih ⊢
      by_cases hc : (r.map (fun x => x.1)).getD (lead b (r.map (fun x => x.1))) 0 = b ∧ lead b (r.map (fun x => x.1)) < (r.map (fun x => x.1)).length
      · rw [if_pos hc] at ih
        rw [if_pos ⟨hc.1, by omega⟩]
        simp only [Prod.mk.injEq] at ih ⊢
        rw [← ih.1, ← ih.2]
        exact ⟨rfl, rfl⟩
      · rw [if_neg hc] at ih
        rw [if_neg (fun h => hc ⟨h.1, by omega⟩)]
        simp only [Prod.mk.injEq] at ih ⊢
        rw [← ih.1, ← ih.2]
        exact ⟨rfl, rfl⟩
    · have hl : lead b ((x :: r).map (fun x => x.1)) = 0 := by simp [lead, hlt]
      rw [hl]
      by_cases he : x.1 = b
      · have hzs : zSet b p (x :: r) = (b, p) :: r := by simp only [zSet, if_neg hlt, if_pos he]
        rw [if_pos ⟨he, by simp⟩, hzs]
        simp [he]
      · have hzs : zSet b p (x :: r) = (b, p) :: x :: r := by simp only [zSet, if_neg hlt, if_neg he]
        rw [if_neg (fun h => he h.1), hzs]
        simp

set_option maxRecDepth 20000 in
set_option maxHeartbeats 4000000 in
theorem calls_XSet (n : List UInt8) (ps : List RgV) (b : UInt8) (p : RgV) (hl : n.length = ps.length) (hn : n.length ≤ 1000) :
    CallsR Try.prog 56 [.ptr 0 2 1 0 0, .int .u8 b.toNat, aRg p] (xH n ps)
      (.tuple []) (xH' (gSet n ps b p).1 (gSet n ps b p).2) := by
  refine callsR_of (mrg := true) (dyn := [6, 7]) (CtrOK.nil _) mixed Try.func56 rfl (by simp [Try.ntmps56]) (by kernel_rfl) ?_
  rw [show Try.f56.results.toList = [] from by kernel_rfl]
  obtain ⟨pk, pl⟩ := p
  simp (maxSteps := 4000000) only [↓wpA_H, ↓wpH_seq, ↓wpH_block, ↓wpH_loop, ↓wpH_region, bselH_false, runH_nil, runH_cons, gw, gselH_plain, ↓chk, justK, noW, ↓oneK, ↓pureK, ↓heapK, envOf, ↓thenA_normal, ↓stepEv, opnd, Pg.look, Bool.false_eq_true, implies_true, true_and, valV, heapV, footV, Nat.reduceAdd, ofV, ofLeaf, AV.cells, AV.definite, reduceCtorEq, Nat.reduceEqDiff, Nat.reduceAdd, List.nil_append, List.cons_append, List.length_cons, List.length_nil, Nat.zero_add, ite_true, ite_false, and_self, List.contains_cons, List.contains_nil, Nat.reduceBEq, Bool.or_self, regH_none, isNext, nextF, nextG, selC_false, xH]
  have hlead := lead_le b n
  refine loopH_intro (α := Nat) (fun k => ([(6, .int .i64 k), (5, .ptr 3 2 1 0 0), (0, .ptr 0 2 1 0 0), (1, .int .u8 b.toNat)], [.arr 70 2 [.agg [.own 1 1 n.length, .own 2 2 ps.length]], .arr 5 1 (ofBytes n), .arr 52 2 (aRs ps), .arr 52 2 [aRg (pk, pl)]]))
    (fun k => k ≤ lead b n) (fun k => lead b n - k) 0 (by omega) ?_ ?_
  · simp (maxSteps := 4000000) only [Pg.look, Bool.and_true, Bool.false_eq_true, true_and, and_true, alives, aliveO, nxtQ, hdS, pairsA, frzA, closeQ_nil, closeQ_succ, diagQ_zero, diagQ_succ, Nat.reduceAdd, subA, subQ, ptrsE, pairsO, frzO, subF, subG, pickOf, assocN, pairsE, pairsC, pairsL, pairs0, frzE, frzC, frzL, frz0, frzH, Pg.freeze, List.foldl_nil, subOs, subO, subEv, subV_succ, subM, AV.cells, AV.pureLeaf, AV.pureB, List.getElem?_cons_succ, List.getElem?_cons_zero, reduceCtorEq, Nat.reduceEqDiff, Nat.reduceAdd, Nat.reduceLT, List.nil_append, List.append_nil, List.cons_append, Nat.zero_add, ite_true, ite_false, List.all_cons, List.all_nil, Bool.and_self, and_self, pureB_bytes, Int.cast_ofNat_Int, Nat.lt_irrefl, Nat.zero_lt_succ, pureB_aRs]
    (repeat' first | exact rfl | apply And.intro | exact subX_eq rfl (pureB_bytes _) | exact subX_eq rfl (pureB_aPs _) | exact subX_eq rfl rfl | decide | omega | apply subX_one)
    all_goals try simp (maxSteps := 4000000) only [subL]
    exact subX_eq rfl (pureB_aRs _)
  intro k hk
  by_cases hlt : k < lead b n
  · have h1 := lead_lt b n k hlt
    have hc1 : decide ((k : Int) < (n.length : Int)) = true := decide_eq_true (by omega)
    have hc2 : decide (((n.getD k 0).toNat : Int) < (b.toNat : Int)) = true := decide_eq_true (by omega)
    have w1 : IntKind.i64.wrap ((k : Int) + 1) = ((k + 1 : Nat) : Int) := by rw [wrap64 (by omega) (by omega)]; omega
    simp (maxSteps := 4000000) only [↓wpA_H, ↓wpH_skip, ↓wpH_seq, ↓wpH_cond, ↓wpH_block, ↓wpH_region, ↓iselH_true, bselH_false, runH_nil, runH_cons, gw, gselH_plain, gselH_if, kselH_1, cselH_bool, gkind, ↓chk, justK, noW, ↓oneK, ↓pureK, ↓heapK, ↓thenA_normal, ↓blockA_normal, ↓stepEv, opnd, Pg.look, binK, intOp, dstOf, Bool.and_true, Bool.not_true, Bool.false_eq_true, Bool.true_eq_false, implies_true, true_and, and_true, forall_const, pickC, pickV, unc, gof, mux, mergeK, condsL, valV, heapV, footV, binV, intV, alives, aliveO, nxtQ, hdS, pairsA, frzA, closeQ_nil, closeQ_succ, diagQ_zero, diagQ_succ, Nat.reduceAdd, mergeable, look_stripE, ofV, ofLeaf, sameK, subA, subQ, ptrsE, pairsO, frzO, subF, subG, pickOf, assocN, pairsE, pairsC, pairsL, pairs0, frzE, frzC, frzL, frz0, frzH, Pg.freeze, List.foldl_nil, subOs, subO, subEv, subV_succ, subM, slen, ldCells, objAt, AV.cells, TK.cells, AV.pureLeaf, AV.pureB, Op.operands, List.getElem?_toArray, List.getElem?_cons_succ, List.getElem?_cons_zero, Option.bind_some, Option.getD_some, reduceCtorEq, Nat.reduceEqDiff, Nat.reduceAdd, Nat.reduceLT, List.nil_append, List.append_nil, List.cons_append, List.length_cons, List.length_nil, Nat.zero_add, ite_true, ite_false, Option.some.injEq, AV.int.injEq, List.all_cons, List.all_nil, Bool.and_self, and_self, exists_eq_left', List.toList_toArray, length_ofBytes, getD_ofBytes, pureB_bytes, List.contains_cons, List.contains_nil, Nat.reduceBEq, Bool.or_self, Int.toNat_natCast, List.getD_cons_zero, Nat.add_zero, Nat.lt_irrefl, Nat.zero_lt_succ, regH_none, isNext, nextF, nextG, selC_false, tk5, dz5, tk32, tk70, dz70, pureB_aRs, hc1, hc2, w1]
    refine ⟨⟨by omega, by omega⟩, by omega, k + 1, by omega, by omega, ?_⟩
    (repeat' first | exact rfl | apply And.intro | exact subX_eq rfl (pureB_bytes _) | exact subX_eq rfl (pureB_aPs _) | exact subX_eq rfl rfl | decide | omega | apply subX_one)
    all_goals try simp (maxSteps := 4000000) only [subL]
    exact subX_eq rfl (pureB_aRs _)
  · obtain rfl : k = lead b n := by omega
    by_cases hend : lead b n < n.length
    · have h1 := lead_at b n hend
      have hc1 : decide ((lead b n : Int) < (n.length : Int)) = true := decide_eq_true (by omega)
      have hc2 : decide (((n.getD (lead b n) 0).toNat : Int) < (b.toNat : Int)) = false := decide_eq_false (by omega)
      have hc3 : (((n.getD (lead b n) 0).toNat : Int) == (b.toNat : Int)) = decide (n.getD (lead b n) 0 = b) := by
        rw [Bool.eq_iff_iff]
        simp only [beq_iff_eq, decide_eq_true_eq]
        exact ⟨fun h => UInt8.toNat_inj.1 (by omega), fun h => by rw [h]⟩
      simp (maxSteps := 4000000) only [↓wpA_H, ↓wpH_skip, ↓wpH_ret, ↓wpH_exit, ↓wpH_seq, ↓wpH_cond, ↓wpH_region, bselH_true, ↓iselH_false, iselH_if, bselH_false, runH_nil, runH_cons, gw, gselH_plain, gselH_if, kselH_1, cselH_bool, gkind, ↓chk, justK, noW, ↓oneK, ↓pureK, ↓heapK, ↓thenA_normal, ↓thenA_ret, ↓thenA_exit, ↓blockA_exit, ↓stepEv, opnd, Pg.look, binK, intOp, dstOf, Bool.and_true, Bool.not_true, Bool.false_eq_true, Bool.true_eq_false, implies_true, true_and, and_true, forall_const, pickC, pickV, unc, gof, mux, mergeK, condsL, valV, heapV, footV, binV, intV, cutV, cutM, alives, aliveO, nxtQ, nsel_true, hdS, pairsA, frzA, closeQ_nil, closeQ_succ, diagQ_zero, diagQ_succ, Nat.reduceAdd, mergeable, look_stripE, ofV, ofLeaf, sameK, retA, resK, tupA, subA, subQ, ptrsE, pairsO, frzO, subF, subG, pickOf, assocN, pairsE, pairsC, pairsL, pairs0, frzE, frzC, frzL, frz0, frzH, Pg.freeze, List.foldl_nil, List.foldl_cons, subOs, subO, subEv, subV_succ, subM, subL, slen, srcV, srcL, srcE, appK, ldCells, objAt, sliceL, ↓sliceOwn, AV.cells, TK.cells, AV.definite, AV.leaf, AV.leafy, AV.pureLeaf, AV.pureB, putCells, lay, frzAt, Op.operands, List.getElem?_toArray, List.getElem?_cons_succ, List.getElem?_cons_zero, Option.bind_some, Option.map_some, Option.map_none, Option.getD_some, reduceCtorEq, Nat.reduceEqDiff, Nat.reduceAdd, Nat.reduceLT, List.nil_append, List.append_nil, List.cons_append, List.length_cons, List.length_nil, List.map_cons, List.map_nil, List.set_cons_zero, List.set_cons_succ, Nat.zero_add, ite_true, ite_false, Option.some.injEq, Option.isSome_some, AV.int.injEq, Prod.mk.injEq, decide_eq_true_eq, decide_eq_false_iff_not, not_false_eq_true, List.all_cons, List.all_nil, Bool.and_self, and_self, exists_eq_left', List.toList_toArray, rg1, not_mem_nil, length_ofBytes, take_ofBytes, drop_ofBytes, getD_ofBytes, app_ofBytes, pureB_bytes, leafy_bytes, List.contains_cons, List.contains_nil, Nat.reduceBEq, Bool.or_self, Bool.or_false, beq_self_eq_true, Bool.or_true, Nat.reducePow, Int.toNat_natCast, List.getD_cons_zero, cutL, List.drop_zero, List.drop_succ_cons, List.take_succ_cons, List.take_zero, Nat.add_zero, Nat.sub_zero, Nat.reduceLeDiff, Nat.le_refl, Nat.lt_irrefl, Nat.mul_one, Nat.one_mul, List.drop_nil, List.take_nil, Nat.zero_lt_succ, regH_none, isNext, nextF, nextG, selC_true, selC_false, pureC, tk5, dz5, eb5, tk32, tk52, dz52, eb52, tk68, tk70, dz70, length_aRs, pureB_aRs, leafy_aRs, hc1, hc2, hc3, set_aRs, getD_aRs, take_aRs, drop_aRs, app_aRs, cons_ofBytes, cons_aRs, neL_bytes, neL_aRs, one_add']
      refine ⟨⟨by omega, by omega⟩, by omega, ⟨by omega, by omega⟩, by omega, fun he => ?_, fun he => ?_⟩
      · have hr : gSet n ps b (pk, pl) = (n, ps.set (lead b n) (pk, pl)) := if_pos ⟨he, hend⟩
        rw [hr]
        refine ⟨⟨by omega, by omega⟩, by omega, by decide, subX_one ?_, subX_eq rfl (pureB_bytes _), subX_eq rfl (pureB_aRs _)⟩
        simp (maxSteps := 4000000) only [subV_succ, subM, subL, AV.cells, List.getElem?_cons_succ, List.getElem?_cons_zero, and_self, List.length_set]
      · have hr : gSet n ps b (pk, pl) = (n.take (lead b n) ++ b :: n.drop (lead b n), ps.take (lead b n) ++ (pk, pl) :: ps.drop (lead b n)) := if_neg (fun h => he h.1)
        rw [hr]
        simp only [List.length_drop, List.length_take]
        refine ⟨⟨by omega, by omega⟩, ⟨by omega, by omega⟩, by omega, by omega, by kernel_rfl, ⟨by omega, by omega⟩, ⟨by omega, by omega⟩, by omega, by omega, by kernel_rfl, by decide, subX_one ?_, subX_eq rfl (pureB_bytes _), subX_eq rfl (pureB_aRs _)⟩
        simp (maxSteps := 4000000) only [subV_succ, subM, subL, AV.cells, List.getElem?_cons_succ, List.getElem?_cons_zero, List.length_cons, and_self, List.length_append, List.length_drop, List.length_take]
        done
    · have hc1 : decide ((lead b n : Int) < (n.length : Int)) = false := decide_eq_false (by omega)
      simp (maxSteps := 4000000) only [↓wpA_H, ↓wpH_skip, ↓wpH_exit, ↓wpH_seq, ↓wpH_cond, ↓wpH_region, bselH_true, ↓iselH_false, bselH_false, runH_nil, runH_cons, gw, gselH_plain, gselH_if, kselH_1, cselH_bool, gkind, ↓chk, justK, noW, ↓oneK, ↓pureK, ↓heapK, ↓thenA_normal, ↓thenA_exit, ↓blockA_exit, ↓stepEv, opnd, Pg.look, binK, intOp, dstOf, Bool.and_true, Bool.not_false, Bool.false_eq_true, false_implies, implies_true, imp_self, true_and, and_true, forall_const, pickC, pickV, unc, gof, mux, mergeK, condsL, valV, heapV, footV, binV, intV, cutV, cutM, alives, aliveO, nxtQ, nsel_true, hdS, pairsA, frzA, closeQ_nil, closeQ_succ, diagQ_zero, diagQ_succ, Nat.reduceAdd, mergeable, look_stripE, ofV, ofLeaf, sameK, retA, resK, tupA, subA, subQ, ptrsE, pairsO, frzO, subF, subG, pickOf, assocN, pairsE, pairsC, pairsL, pairs0, frzE, frzC, frzL, frz0, frzH, Pg.freeze, List.foldl_nil, List.foldl_cons, subOs, subO, subEv, subV_succ, subM, subL, slen, srcV, srcL, srcE, appK, ldCells, objAt, sliceL, ↓sliceOwn, AV.cells, TK.cells, AV.definite, AV.leaf, AV.leafy, AV.pureLeaf, AV.pureB, putCells, lay, frzAt, Op.operands, List.getElem?_toArray, List.getElem?_cons_succ, List.getElem?_cons_zero, Option.bind_some, Option.map_some, Option.map_none, Option.getD_some, reduceCtorEq, Nat.reduceEqDiff, Nat.reduceAdd, Nat.reduceLT, List.nil_append, List.append_nil, List.cons_append, List.length_cons, List.length_nil, List.map_cons, List.map_nil, List.set_cons_zero, List.set_cons_succ, Nat.zero_add, ite_true, ite_false, Option.some.injEq, Option.isSome_some, AV.int.injEq, Prod.mk.injEq, not_false_eq_true, List.all_cons, List.all_nil, Bool.and_self, and_self, exists_eq_left', List.toList_toArray, rg1, not_mem_nil, length_ofBytes, take_ofBytes, drop_ofBytes, getD_ofBytes, app_ofBytes, pureB_bytes, leafy_bytes, List.contains_cons, List.contains_nil, Nat.reduceBEq, Bool.or_self, Bool.or_false, beq_self_eq_true, Bool.or_true, Nat.reducePow, Int.toNat_natCast, List.getD_cons_zero, cutL, List.drop_zero, List.drop_succ_cons, List.take_succ_cons, List.take_zero, Nat.add_zero, Nat.sub_zero, Nat.reduceLeDiff, Nat.le_refl, Nat.lt_irrefl, Nat.mul_one, Nat.one_mul, List.drop_nil, List.take_nil, Nat.zero_lt_succ, regH_none, isNext, nextF, nextG, selC_false, tk5, dz5, eb5, tk32, tk52, dz52, eb52, tk68, tk70, dz70, length_aRs, pureB_aRs, leafy_aRs, hc1, take_aRs, drop_aRs, app_aRs, cons_ofBytes, cons_aRs, neL_bytes, neL_aRs, one_add']
      have hr : gSet n ps b (pk, pl) = (n.take (lead b n) ++ b :: n.drop (lead b n), ps.take (lead b n) ++ (pk, pl) :: ps.drop (lead b n)) := if_neg (fun h => hend h.2)
      rw [hr]
      simp only [List.length_drop, List.length_take]
      refine ⟨⟨by omega, by omega⟩, ⟨by omega, by omega⟩, by omega, by omega, by kernel_rfl, ⟨by omega, by omega⟩, ⟨by omega, by omega⟩, by omega, by omega, by kernel_rfl, by decide, subX_one ?_, subX_eq rfl (pureB_bytes _), subX_eq rfl (pureB_aRs _)⟩
      simp (maxSteps := 4000000) only [subV_succ, subM, subL, AV.cells, List.getElem?_cons_succ, List.getElem?_cons_zero, List.length_cons, and_self, List.length_append, List.length_drop, List.length_take]
      done

theorem zip_z (n : List UInt8) (ps : List RgV) (h : n.length = ps.length) : zNr (n.zip ps) = n ∧ zPr (n.zip ps) = ps := by
  induction n generalizing ps with
  | nil => cases ps with
    | nil => exact ⟨rfl, rfl⟩
    | cons => simp at h
  | cons c n ih => cases ps with
    | nil => simp at h
    | cons p ps =>
      have := ih ps (by simpa using h)
      exact ⟨by show c :: zNr (n.zip ps) = _; rw [this.1], by show p :: zPr (n.zip ps) = _; rw [this.2]⟩
theorem calls_XSetZ (z : Rgs) (b : UInt8) (p : RgV) (hn : z.length ≤ 1000) : CallsR Try.prog 56 [.ptr 0 2 1 0 0, .int .u8 b.toNat, aRg p] (xH (zNr z) (zPr z))
      (.tuple []) (xH' (zNr (zSet b p z)) (zPr (zSet b p z))) := by
  have h := calls_XSet (zNr z) (zPr z) b p (by simp) (by simpa using hn)
  rw [gSet_z] at h
  exact h
def kXSet : C1 := C1.mby (hCons hXf (hCons (hP .id cByte) (hCons (hP (.ag [none, some 1]) cRgV) hNil))) (fun d => d.1.1.length = d.1.2.1.length ∧ d.1.1.length ≤ 1000) (fun _ => .tuple [])
  (fun d => xH' (zNr (zSet d.2.1 d.2.2.1 (d.1.1.zip d.1.2.1))) (zPr (zSet d.2.1 d.2.2.1 (d.1.1.zip d.1.2.1))))
theorem ok_XSet : C1OK Try.prog 56 kXSet := C1OK.mby (by kernel_rfl) (fun d h => by
    have := calls_XSetZ (d.1.1.zip d.1.2.1) d.2.1 d.2.2.1 (by rw [List.length_zip]; have := h.2; omega)
    rw [(zip_z _ _ h.1).1, (zip_z _ _ h.1).2] at this
    exact this) (fun _ _ => by show 3 ≤ 5; omega)

theorem look1_drop (b : UInt8) (z : Rgs) (k : Nat) (hk : k < z.length) : look1 b (z.drop k) = if (zNr z).getD k 0 = b then some ((zPr z).getD k (0, [])) else look1 b (z.drop (k + 1)) := by
  rw [List.drop_eq_getElem_cons hk]
  simp only [look1]
  have e1 : (zNr z).getD k 0 = z[k].1 := by
    rw [List.getD_eq_getElem?_getD, List.getElem?_map, List.getElem?_eq_getElem hk]; rfl
  have e2 : (zPr z).getD k (0, []) = z[k].2 := by
    rw [List.getD_eq_getElem?_getD, List.getElem?_map, List.getElem?_eq_getElem hk]; rfl
  rw [e1, e2]

set_option maxRecDepth 20000 in
set_option maxHeartbeats 4000000 in
theorem calls_XGet (z : Rgs) (b : UInt8) (hn : z.length ≤ 1000) :
    CallsR Try.prog 43 [.ptr 0 2 1 0 0, .int .u8 b.toNat] (xH (zNr z) (zPr z))
      (.tuple [aRg ((look1 (gname b) z).getD (0, [])), .bool (look1 (gname b) z).isSome]) (xH (zNr z) (zPr z)) := by
  refine callsR_of (mrg := true) (dyn := []) (CtrOK.nil _) mixed Try.func43 rfl (by simp [Try.ntmps43]) (by kernel_rfl) ?_
  rw [show Try.f43.results.toList = [.cell 4 52, .tmp 5] from by kernel_rfl]
  by_cases h0 : b = 0
  · have c0 : ((b.toNat : Int) == 0) = true := by rw [h0]; rfl
    have hg : gname b = 34 := if_pos h0
    obtain ⟨nb, hnb⟩ : ∃ nb : UInt8, nb = 34 := ⟨_, rfl⟩
    have hlit : (34 : Int) = (nb.toNat : Int) := by rw [hnb]; rfl
    rw [hg, ← hnb]
    have d34 : decide ((34 : Int) ≥ 65) = false := rfl
    simp (maxSteps := 4000000) only [↓wpA_H, ↓wpH_skip, ↓wpH_seq, ↓wpH_cond, ↓wpH_block, ↓wpH_loop, ↓wpH_region, ↓iselH_true, ↓iselH_false, bselH_false, runH_nil, runH_cons, gw, gselH_plain, gselH_if, kselH_1, cselH_bool, gkind, ↓chk, justK, noW, ↓oneK, ↓pureK, ↓heapK, envOf, ↓thenA_normal, ↓stepEv, opnd, Pg.look, binK, intOp, dstOf, Bool.not_false, Bool.false_eq_true, implies_true, imp_self, true_and, and_true, pickC, pickV, unc, gof, mux, mergeK, condsL, valV, heapV, footV, binV, intV, Nat.reduceAdd, mergeable, look_stripE, ofV, ofLeaf, sameK, AV.cells, AV.definite, Op.operands, List.getElem?_toArray, List.getElem?_cons_succ, List.getElem?_cons_zero, Option.bind_some, reduceCtorEq, Nat.reduceEqDiff, Nat.reduceAdd, List.nil_append, List.cons_append, List.length_cons, List.length_nil, Nat.zero_add, ite_true, ite_false, Bool.and_self, and_self, List.length_map, List.toList_toArray, Int.reduceLE, List.contains_nil, regH_none, isNext, nextF, nextG, selC_false, tz52, c0, d34, xH]
    refine loopH_intro (α := Nat) (fun k => ([(6, .int .i64 k), (5, .bool false), (4, .ptr 3 2 1 0 0), (0, .ptr 0 2 1 0 0), (1, .int .u8 nb.toNat)], xH (zNr z) (zPr z) ++ [.arr 52 2 [.agg [.int .i64 0, .sl 1 []]]]))
        (fun k => k ≤ z.length ∧ look1 nb (z.drop k) = look1 nb z) (fun k => z.length - k) 0 ⟨by omega, rfl⟩ ?_ ?_
    · simp (maxSteps := 4000000) only [Pg.look, Bool.and_true, Bool.false_eq_true, true_and, and_true, alives, aliveO, nxtQ, hdS, pairsA, frzA, closeQ_nil, closeQ_succ, diagQ_zero, diagQ_succ, Nat.reduceAdd, subA, subQ, ptrsE, pairsO, frzO, subF, subG, pickOf, assocN, pairsE, pairsC, pairsL, pairs0, frzE, frzC, frzL, frz0, frzH, Pg.freeze, List.foldl_nil, subOs, subO, subEv, subV_succ, subM, AV.cells, AV.pureLeaf, AV.pureB, List.getElem?_cons_succ, List.getElem?_cons_zero, reduceCtorEq, Nat.reduceEqDiff, Nat.reduceAdd, Nat.reduceLT, List.nil_append, List.append_nil, List.cons_append, Nat.zero_add, ite_true, ite_false, List.all_cons, List.all_nil, Bool.and_self, and_self, List.length_map, pureB_bytes, Int.cast_ofNat_Int, Nat.lt_irrefl, Nat.zero_lt_succ, pureB_aRs, xH, ← hlit, List.length_map]
      (repeat' first | exact rfl | apply And.intro | exact subX_eq rfl (pureB_bytes _) | exact subX_eq rfl (pureB_aPs _) | exact subX_eq rfl rfl | decide | omega | apply subX_one)
      all_goals try simp (maxSteps := 4000000) only [subL]
      all_goals exact subX_eq rfl (pureB_aRs _)
    rintro k ⟨hk, hg⟩
    by_cases hlt : k < z.length
    · have hc1 : decide ((k : Int) < (z.length : Int)) = true := decide_eq_true (by omega)
      have hc3 : ((((zNr z).getD k 0).toNat : Int) == (nb.toNat : Int)) = decide ((zNr z).getD k 0 = nb) := by
        rw [Bool.eq_iff_iff]
        simp only [beq_iff_eq, decide_eq_true_eq]
        exact ⟨fun h => UInt8.toNat_inj.1 (by omega), fun h => by rw [h]⟩
      have w1 : IntKind.i64.wrap ((k : Int) + 1) = ((k + 1 : Nat) : Int) := by rw [wrap64 (by omega) (by omega)]; omega
      have hd := look1_drop nb z k hlt
      simp (maxSteps := 4000000) only [↓wpA_H, ↓wpH_skip, ↓wpH_ret, ↓wpH_seq, ↓wpH_cond, ↓wpH_block, ↓wpH_region, ↓iselH_true, iselH_if, bselH_false, runH_nil, runH_cons, gw, gselH_plain, cselH_bool, ↓chk, justK, noW, ↓oneK, ↓pureK, ↓heapK, ↓thenA_normal, ↓thenA_ret, ↓blockA_normal, ↓blockA_ret, ↓stepEv, opnd, Pg.look, binK, intOp, Bool.and_true, Bool.false_eq_true, implies_true, true_and, and_true, valV, heapV, footV, binV, intV, alives, aliveO, nxtQ, hdS, pairsA, frzA, closeQ_nil, closeQ_succ, diagQ_zero, diagQ_succ, Nat.reduceAdd, ofV, ofLeaf, retA, resK, tupA, subA, subQ, ptrsE, pairsO, frzO, subF, subG, pickOf, assocN, pairsE, pairsC, pairsL, pairs0, frzE, frzC, frzL, frz0, frzH, Pg.freeze, List.foldl_nil, subOs, subO, subEv, subV_succ, subM, subL, slen, ldCells, objAt, res_succ, resM, AV.cells, TK.cells, AV.leaf, AV.leafy, AV.pureLeaf, AV.pureB, putCells, lay, List.getElem?_cons_succ, List.getElem?_cons_zero, Option.getD_some, reduceCtorEq, Nat.reduceEqDiff, Nat.reduceAdd, Nat.reduceLT, List.nil_append, List.append_nil, List.cons_append, List.length_cons, List.length_nil, List.set_cons_zero, List.set_cons_succ, Nat.zero_add, ite_true, ite_false, Option.some.injEq, AV.int.injEq, decide_eq_true_eq, decide_eq_false_iff_not, List.all_cons, List.all_nil, Bool.and_self, and_self, exists_eq_left', List.length_map, length_ofBytes, getD_ofBytes, pureB_bytes, List.contains_nil, Int.toNat_natCast, List.getD_cons_zero, cutL, List.drop_zero, List.drop_succ_cons, List.take_succ_cons, List.take_zero, Nat.add_zero, Nat.sub_zero, Nat.le_refl, Nat.lt_irrefl, List.drop_nil, List.take_nil, Nat.zero_lt_succ, regH_none, isNext, nextF, nextG, selC_false, mapAt, tk5, dz5, tk32, tk52, dz52, tk68, tk70, dz70, length_aRs, pureB_aRs, hc1, hc3, w1, getD_aRs, List.length_map]
      refine ⟨⟨by omega, by omega⟩, by omega, fun he => ?_, fun he => ?_⟩
      · rw [if_pos he, hg] at hd
        rw [hd]
        refine ⟨⟨by omega, by omega⟩, by omega, ?_⟩
        (repeat' first | exact rfl | apply And.intro | exact subX_eq rfl (pureB_bytes _) | exact subX_eq rfl (pureB_aPs _) | exact subX_eq rfl rfl | decide | omega | apply subX_one)
        all_goals try simp (maxSteps := 4000000) only [subL]
        all_goals exact subX_eq rfl (pureB_aRs _)
      · rw [if_neg he, hg] at hd
        refine ⟨k + 1, ⟨by omega, hd.symm⟩, by omega, ?_⟩
        (repeat' first | exact rfl | apply And.intro | exact subX_eq rfl (pureB_bytes _) | exact subX_eq rfl (pureB_aPs _) | exact subX_eq rfl rfl | decide | omega | apply subX_one)
        all_goals try simp (maxSteps := 4000000) only [subL]
        all_goals exact subX_eq rfl (pureB_aRs _)
    · have hc1 : decide ((k : Int) < (z.length : Int)) = false := decide_eq_false (by omega)
      have he : look1 nb z = none := by rw [← hg, List.drop_eq_nil_of_le (by omega)]; rfl
      simp (maxSteps := 4000000) only [↓wpA_H, ↓wpH_ret, ↓wpH_exit, ↓wpH_seq, ↓wpH_cond, ↓wpH_region, ↓iselH_false, bselH_false, runH_nil, runH_cons, gw, gselH_plain, cselH_bool, ↓chk, justK, noW, ↓oneK, ↓pureK, ↓heapK, ↓thenA_normal, ↓thenA_exit, ↓blockA_exit, ↓stepEv, opnd, Pg.look, binK, intOp, Bool.and_true, Bool.false_eq_true, implies_true, true_and, and_true, valV, heapV, footV, binV, intV, alives, aliveO, nxtQ, hdS, pairsA, frzA, closeQ_nil, closeQ_succ, diagQ_zero, diagQ_succ, Nat.reduceAdd, ofV, ofLeaf, retA, resK, tupA, subA, subQ, ptrsE, pairsO, frzO, subF, subG, pickOf, pairsE, pairsC, pairsL, pairs0, frzE, frzC, frzL, frz0, frzH, Pg.freeze, List.foldl_nil, subOs, subO, subEv, subV_succ, subM, subL, slen, ldCells, objAt, res_succ, resM, AV.cells, TK.cells, AV.leaf, AV.leafy, AV.pureLeaf, AV.pureB, putCells, lay, buildL, List.getElem?_cons_succ, List.getElem?_cons_zero, Option.getD_some, Option.getD_none, reduceCtorEq, Nat.reduceEqDiff, Nat.reduceAdd, Nat.reduceLT, List.nil_append, List.append_nil, List.cons_append, List.length_cons, List.length_nil, List.map_nil, List.set_cons_zero, List.set_cons_succ, Nat.zero_add, ite_true, ite_false, Option.some.injEq, Option.isSome_some, Option.isSome_none, AV.int.injEq, AV.agg.injEq, List.all_cons, List.all_nil, Bool.and_self, and_self, exists_eq_left', List.length_map, pureB_bytes, List.contains_nil, List.getD_cons_zero, cutL, List.drop_zero, List.drop_succ_cons, List.take_succ_cons, List.take_zero, Nat.add_zero, Nat.sub_zero, Nat.le_refl, List.drop_nil, List.take_nil, Nat.zero_lt_succ, regH_none, isNext, nextF, nextG, selC_false, mapAt, tk32, tk52, tz52, dz52, tk70, dz70, pureB_aRs, hc1, he, List.length_map]
      (repeat' first | exact rfl | apply And.intro | exact subX_eq rfl (pureB_bytes _) | exact subX_eq rfl (pureB_aPs _) | exact subX_eq rfl rfl | decide | omega | apply subX_one)
      all_goals try simp (maxSteps := 4000000) only [subL]
      all_goals exact subX_eq rfl (pureB_aRs _)
  · have c0 : ((b.toNat : Int) == 0) = false := by
      have h := byte_eq b 0
      rw [show (((0 : UInt8).toNat : Nat) : Int) = 0 from rfl] at h
      rw [h, beq_eq_false_iff_ne]; exact h0
    have c1 := up_eq b
    cases hu : isUp b with
    | true =>
      rw [hu] at c1
      have hg : gname b = b + 32 := by unfold gname; rw [if_neg h0, if_pos hu]
      have hw := up_wrap hu
      obtain ⟨nb, hnb⟩ : ∃ nb : UInt8, nb = b + 32 := ⟨_, rfl⟩
      rw [← hnb] at hw
      rw [hg, ← hnb]
      simp (maxSteps := 4000000) only [↓wpA_H, ↓wpH_skip, ↓wpH_seq, ↓wpH_cond, ↓wpH_block, ↓wpH_loop, ↓wpH_region, ↓iselH_true, ↓iselH_false, bselH_false, runH_nil, runH_cons, gw, gselH_plain, gselH_if, kselH_1, cselH_bool, gkind, ↓chk, justK, noW, ↓oneK, ↓pureK, ↓heapK, envOf, ↓thenA_normal, ↓stepEv, opnd, Pg.look, binK, intOp, dstOf, Bool.false_eq_true, implies_true, imp_self, true_and, and_true, pickC, pickV, unc, gof, mux, mergeK, condsL, valV, heapV, footV, binV, intV, Nat.reduceAdd, mergeable, look_stripE, ofV, ofLeaf, sameK, AV.cells, AV.definite, Op.operands, List.getElem?_toArray, List.getElem?_cons_succ, List.getElem?_cons_zero, Option.bind_some, reduceCtorEq, Nat.reduceEqDiff, Nat.reduceAdd, List.nil_append, List.cons_append, List.length_cons, List.length_nil, Nat.zero_add, ite_true, ite_false, Bool.if_false_right, decide_eq_true_eq, decide_eq_false_iff_not, Int.not_le, Bool.and_self, and_self, List.length_map, List.toList_toArray, List.contains_nil, regH_none, isNext, nextF, nextG, selC_false, tz52, c0, c1, hw, xH]
      refine loopH_intro (α := Nat) (fun k => ([(6, .int .i64 k), (5, .bool false), (4, .ptr 3 2 1 0 0), (0, .ptr 0 2 1 0 0), (1, .int .u8 nb.toNat)], xH (zNr z) (zPr z) ++ [.arr 52 2 [.agg [.int .i64 0, .sl 1 []]]]))
          (fun k => k ≤ z.length ∧ look1 nb (z.drop k) = look1 nb z) (fun k => z.length - k) 0 ⟨by omega, rfl⟩ ?_ ?_
      · simp (maxSteps := 4000000) only [Pg.look, Bool.and_true, Bool.false_eq_true, true_and, and_true, alives, aliveO, nxtQ, hdS, pairsA, frzA, closeQ_nil, closeQ_succ, diagQ_zero, diagQ_succ, Nat.reduceAdd, subA, subQ, ptrsE, pairsO, frzO, subF, subG, pickOf, assocN, pairsE, pairsC, pairsL, pairs0, frzE, frzC, frzL, frz0, frzH, Pg.freeze, List.foldl_nil, subOs, subO, subEv, subV_succ, subM, AV.cells, AV.pureLeaf, AV.pureB, List.getElem?_cons_succ, List.getElem?_cons_zero, reduceCtorEq, Nat.reduceEqDiff, Nat.reduceAdd, Nat.reduceLT, List.nil_append, List.append_nil, List.cons_append, Nat.zero_add, ite_true, ite_false, List.all_cons, List.all_nil, Bool.and_self, and_self, List.length_map, pureB_bytes, Int.cast_ofNat_Int, Nat.lt_irrefl, Nat.zero_lt_succ, pureB_aRs, xH, List.length_map]
        (repeat' first | exact rfl | apply And.intro | exact subX_eq rfl (pureB_bytes _) | exact subX_eq rfl (pureB_aPs _) | exact subX_eq rfl rfl | decide | omega | apply subX_one)
        all_goals try simp (maxSteps := 4000000) only [subL]
        all_goals exact subX_eq rfl (pureB_aRs _)
      rintro k ⟨hk, hg⟩
      by_cases hlt : k < z.length
      · have hc1 : decide ((k : Int) < (z.length : Int)) = true := decide_eq_true (by omega)
        have hc3 : ((((zNr z).getD k 0).toNat : Int) == (nb.toNat : Int)) = decide ((zNr z).getD k 0 = nb) := by
          rw [Bool.eq_iff_iff]
          simp only [beq_iff_eq, decide_eq_true_eq]
          exact ⟨fun h => UInt8.toNat_inj.1 (by omega), fun h => by rw [h]⟩
        have w1 : IntKind.i64.wrap ((k : Int) + 1) = ((k + 1 : Nat) : Int) := by rw [wrap64 (by omega) (by omega)]; omega
        have hd := look1_drop nb z k hlt
        simp (maxSteps := 4000000) only [↓wpA_H, ↓wpH_skip, ↓wpH_ret, ↓wpH_seq, ↓wpH_cond, ↓wpH_block, ↓wpH_region, ↓iselH_true, iselH_if, bselH_false, runH_nil, runH_cons, gw, gselH_plain, cselH_bool, ↓chk, justK, noW, ↓oneK, ↓pureK, ↓heapK, ↓thenA_normal, ↓thenA_ret, ↓blockA_normal, ↓blockA_ret, ↓stepEv, opnd, Pg.look, binK, intOp, Bool.and_true, Bool.false_eq_true, implies_true, true_and, and_true, valV, heapV, footV, binV, intV, alives, aliveO, nxtQ, hdS, pairsA, frzA, closeQ_nil, closeQ_succ, diagQ_zero, diagQ_succ, Nat.reduceAdd, ofV, ofLeaf, retA, resK, tupA, subA, subQ, ptrsE, pairsO, frzO, subF, subG, pickOf, assocN, pairsE, pairsC, pairsL, pairs0, frzE, frzC, frzL, frz0, frzH, Pg.freeze, List.foldl_nil, subOs, subO, subEv, subV_succ, subM, subL, slen, ldCells, objAt, res_succ, resM, AV.cells, TK.cells, AV.leaf, AV.leafy, AV.pureLeaf, AV.pureB, putCells, lay, List.getElem?_cons_succ, List.getElem?_cons_zero, Option.getD_some, reduceCtorEq, Nat.reduceEqDiff, Nat.reduceAdd, Nat.reduceLT, List.nil_append, List.append_nil, List.cons_append, List.length_cons, List.length_nil, List.set_cons_zero, List.set_cons_succ, Nat.zero_add, ite_true, ite_false, Option.some.injEq, AV.int.injEq, decide_eq_true_eq, decide_eq_false_iff_not, List.all_cons, List.all_nil, Bool.and_self, and_self, exists_eq_left', List.length_map, length_ofBytes, getD_ofBytes, pureB_bytes, List.contains_nil, Int.toNat_natCast, List.getD_cons_zero, cutL, List.drop_zero, List.drop_succ_cons, List.take_succ_cons, List.take_zero, Nat.add_zero, Nat.sub_zero, Nat.le_refl, Nat.lt_irrefl, List.drop_nil, List.take_nil, Nat.zero_lt_succ, regH_none, isNext, nextF, nextG, selC_false, mapAt, tk5, dz5, tk32, tk52, dz52, tk68, tk70, dz70, length_aRs, pureB_aRs, hc1, hc3, w1, getD_aRs, List.length_map]
        refine ⟨⟨by omega, by omega⟩, by omega, fun he => ?_, fun he => ?_⟩
        · rw [if_pos he, hg] at hd
          rw [hd]
          refine ⟨⟨by omega, by omega⟩, by omega, ?_⟩
          (repeat' first | exact rfl | apply And.intro | exact subX_eq rfl (pureB_bytes _) | exact subX_eq rfl (pureB_aPs _) | exact subX_eq rfl rfl | decide | omega | apply subX_one)
          all_goals try simp (maxSteps := 4000000) only [subL]
          all_goals exact subX_eq rfl (pureB_aRs _)
        · rw [if_neg he, hg] at hd
          refine ⟨k + 1, ⟨by omega, hd.symm⟩, by omega, ?_⟩
          (repeat' first | exact rfl | apply And.intro | exact subX_eq rfl (pureB_bytes _) | exact subX_eq rfl (pureB_aPs _) | exact subX_eq rfl rfl | decide | omega | apply subX_one)
          all_goals try simp (maxSteps := 4000000) only [subL]
          all_goals exact subX_eq rfl (pureB_aRs _)
      · have hc1 : decide ((k : Int) < (z.length : Int)) = false := decide_eq_false (by omega)
        have he : look1 nb z = none := by rw [← hg, List.drop_eq_nil_of_le (by omega)]; rfl
        simp (maxSteps := 4000000) only [↓wpA_H, ↓wpH_ret, ↓wpH_exit, ↓wpH_seq, ↓wpH_cond, ↓wpH_region, ↓iselH_false, bselH_false, runH_nil, runH_cons, gw, gselH_plain, cselH_bool, ↓chk, justK, noW, ↓oneK, ↓pureK, ↓heapK, ↓thenA_normal, ↓thenA_exit, ↓blockA_exit, ↓stepEv, opnd, Pg.look, binK, intOp, Bool.and_true, Bool.false_eq_true, implies_true, true_and, and_true, valV, heapV, footV, binV, intV, alives, aliveO, nxtQ, hdS, pairsA, frzA, closeQ_nil, closeQ_succ, diagQ_zero, diagQ_succ, Nat.reduceAdd, ofV, ofLeaf, retA, resK, tupA, subA, subQ, ptrsE, pairsO, frzO, subF, subG, pickOf, pairsE, pairsC, pairsL, pairs0, frzE, frzC, frzL, frz0, frzH, Pg.freeze, List.foldl_nil, subOs, subO, subEv, subV_succ, subM, subL, slen, ldCells, objAt, res_succ, resM, AV.cells, TK.cells, AV.leaf, AV.leafy, AV.pureLeaf, AV.pureB, putCells, lay, buildL, List.getElem?_cons_succ, List.getElem?_cons_zero, Option.getD_some, Option.getD_none, reduceCtorEq, Nat.reduceEqDiff, Nat.reduceAdd, Nat.reduceLT, List.nil_append, List.append_nil, List.cons_append, List.length_cons, List.length_nil, List.map_nil, List.set_cons_zero, List.set_cons_succ, Nat.zero_add, ite_true, ite_false, Option.some.injEq, Option.isSome_some, Option.isSome_none, AV.int.injEq, AV.agg.injEq, List.all_cons, List.all_nil, Bool.and_self, and_self, exists_eq_left', List.length_map, pureB_bytes, List.contains_nil, List.getD_cons_zero, cutL, List.drop_zero, List.drop_succ_cons, List.take_succ_cons, List.take_zero, Nat.add_zero, Nat.sub_zero, Nat.le_refl, List.drop_nil, List.take_nil, Nat.zero_lt_succ, regH_none, isNext, nextF, nextG, selC_false, mapAt, tk32, tk52, tz52, dz52, tk70, dz70, pureB_aRs, hc1, he, List.length_map]
        (repeat' first | exact rfl | apply And.intro | exact subX_eq rfl (pureB_bytes _) | exact subX_eq rfl (pureB_aPs _) | exact subX_eq rfl rfl | decide | omega | apply subX_one)
        all_goals try simp (maxSteps := 4000000) only [subL]
        all_goals exact subX_eq rfl (pureB_aRs _)
    | false =>
      rw [hu] at c1
      have hg : gname b = b := by unfold gname; rw [if_neg h0, if_neg (by rw [hu]; simp)]
      rw [hg]
      obtain ⟨nb, hnb⟩ : ∃ nb : UInt8, nb = b := ⟨_, rfl⟩
      rw [← hnb] at c0 c1 ⊢
      simp (maxSteps := 4000000) only [↓wpA_H, ↓wpH_skip, ↓wpH_seq, ↓wpH_cond, ↓wpH_block, ↓wpH_loop, ↓wpH_region, ↓iselH_false, bselH_false, runH_nil, runH_cons, gw, gselH_plain, gselH_if, kselH_1, cselH_bool, gkind, ↓chk, justK, noW, ↓oneK, ↓pureK, ↓heapK, envOf, ↓thenA_normal, ↓stepEv, opnd, Pg.look, binK, intOp, dstOf, Bool.false_eq_true, implies_true, imp_self, true_and, and_true, pickC, pickV, unc, gof, mux, mergeK, condsL, valV, heapV, footV, binV, intV, Nat.reduceAdd, mergeable, look_stripE, ofV, ofLeaf, sameK, AV.cells, AV.definite, Op.operands, List.getElem?_toArray, List.getElem?_cons_succ, List.getElem?_cons_zero, Option.bind_some, reduceCtorEq, Nat.reduceEqDiff, Nat.reduceAdd, List.nil_append, List.cons_append, List.length_cons, List.length_nil, Nat.zero_add, ite_true, ite_false, Bool.if_false_right, decide_eq_true_eq, decide_eq_false_iff_not, Int.not_le, Bool.and_self, and_self, List.length_map, List.toList_toArray, List.contains_nil, regH_none, isNext, nextF, nextG, selC_false, tz52, c0, c1, xH]
      refine loopH_intro (α := Nat) (fun k => ([(6, .int .i64 k), (5, .bool false), (4, .ptr 3 2 1 0 0), (0, .ptr 0 2 1 0 0), (1, .int .u8 nb.toNat)], xH (zNr z) (zPr z) ++ [.arr 52 2 [.agg [.int .i64 0, .sl 1 []]]]))
          (fun k => k ≤ z.length ∧ look1 nb (z.drop k) = look1 nb z) (fun k => z.length - k) 0 ⟨by omega, rfl⟩ ?_ ?_
      · simp (maxSteps := 4000000) only [Pg.look, Bool.and_true, Bool.false_eq_true, true_and, and_true, alives, aliveO, nxtQ, hdS, pairsA, frzA, closeQ_nil, closeQ_succ, diagQ_zero, diagQ_succ, Nat.reduceAdd, subA, subQ, ptrsE, pairsO, frzO, subF, subG, pickOf, assocN, pairsE, pairsC, pairsL, pairs0, frzE, frzC, frzL, frz0, frzH, Pg.freeze, List.foldl_nil, subOs, subO, subEv, subV_succ, subM, AV.cells, AV.pureLeaf, AV.pureB, List.getElem?_cons_succ, List.getElem?_cons_zero, reduceCtorEq, Nat.reduceEqDiff, Nat.reduceAdd, Nat.reduceLT, List.nil_append, List.append_nil, List.cons_append, Nat.zero_add, ite_true, ite_false, List.all_cons, List.all_nil, Bool.and_self, and_self, List.length_map, pureB_bytes, Int.cast_ofNat_Int, Nat.lt_irrefl, Nat.zero_lt_succ, pureB_aRs, xH, List.length_map]
        (repeat' first | exact rfl | apply And.intro | exact subX_eq rfl (pureB_bytes _) | exact subX_eq rfl (pureB_aPs _) | exact subX_eq rfl rfl | decide | omega | apply subX_one)
        all_goals try simp (maxSteps := 4000000) only [subL]
        all_goals exact subX_eq rfl (pureB_aRs _)
      rintro k ⟨hk, hg⟩
      by_cases hlt : k < z.length
      · have hc1 : decide ((k : Int) < (z.length : Int)) = true := decide_eq_true (by omega)
        have hc3 : ((((zNr z).getD k 0).toNat : Int) == (nb.toNat : Int)) = decide ((zNr z).getD k 0 = nb) := by
          rw [Bool.eq_iff_iff]
          simp only [beq_iff_eq, decide_eq_true_eq]
          exact ⟨fun h => UInt8.toNat_inj.1 (by omega), fun h => by rw [h]⟩
        have w1 : IntKind.i64.wrap ((k : Int) + 1) = ((k + 1 : Nat) : Int) := by rw [wrap64 (by omega) (by omega)]; omega
        have hd := look1_drop nb z k hlt
        simp (maxSteps := 4000000) only [↓wpA_H, ↓wpH_skip, ↓wpH_ret, ↓wpH_seq, ↓wpH_cond, ↓wpH_block, ↓wpH_region, ↓iselH_true, iselH_if, bselH_false, runH_nil, runH_cons, gw, gselH_plain, cselH_bool, ↓chk, justK, noW, ↓oneK, ↓pureK, ↓heapK, ↓thenA_normal, ↓thenA_ret, ↓blockA_normal, ↓blockA_ret, ↓stepEv, opnd, Pg.look, binK, intOp, Bool.and_true, Bool.false_eq_true, implies_true, true_and, and_true, valV, heapV, footV, binV, intV, alives, aliveO, nxtQ, hdS, pairsA, frzA, closeQ_nil, closeQ_succ, diagQ_zero, diagQ_succ, Nat.reduceAdd, ofV, ofLeaf, retA, resK, tupA, subA, subQ, ptrsE, pairsO, frzO, subF, subG, pickOf, assocN, pairsE, pairsC, pairsL, pairs0, frzE, frzC, frzL, frz0, frzH, Pg.freeze, List.foldl_nil, subOs, subO, subEv, subV_succ, subM, subL, slen, ldCells, objAt, res_succ, resM, AV.cells, TK.cells, AV.leaf, AV.leafy, AV.pureLeaf, AV.pureB, putCells, lay, List.getElem?_cons_succ, List.getElem?_cons_zero, Option.getD_some, reduceCtorEq, Nat.reduceEqDiff, Nat.reduceAdd, Nat.reduceLT, List.nil_append, List.append_nil, List.cons_append, List.length_cons, List.length_nil, List.set_cons_zero, List.set_cons_succ, Nat.zero_add, ite_true, ite_false, Option.some.injEq, AV.int.injEq, decide_eq_true_eq, decide_eq_false_iff_not, List.all_cons, List.all_nil, Bool.and_self, and_self, exists_eq_left', List.length_map, length_ofBytes, getD_ofBytes, pureB_bytes, List.contains_nil, Int.toNat_natCast, List.getD_cons_zero, cutL, List.drop_zero, List.drop_succ_cons, List.take_succ_cons, List.take_zero, Nat.add_zero, Nat.sub_zero, Nat.le_refl, Nat.lt_irrefl, List.drop_nil, List.take_nil, Nat.zero_lt_succ, regH_none, isNext, nextF, nextG, selC_false, mapAt, tk5, dz5, tk32, tk52, dz52, tk68, tk70, dz70, length_aRs, pureB_aRs, hc1, hc3, w1, getD_aRs, List.length_map]
        refine ⟨⟨by omega, by omega⟩, by omega, fun he => ?_, fun he => ?_⟩
        · rw [if_pos he, hg] at hd
          rw [hd]
          refine ⟨⟨by omega, by omega⟩, by omega, ?_⟩
          (repeat' first | exact rfl | apply And.intro | exact subX_eq rfl (pureB_bytes _) | exact subX_eq rfl (pureB_aPs _) | exact subX_eq rfl rfl | decide | omega | apply subX_one)
          all_goals try simp (maxSteps := 4000000) only [subL]
          all_goals exact subX_eq rfl (pureB_aRs _)
        · rw [if_neg he, hg] at hd
          refine ⟨k + 1, ⟨by omega, hd.symm⟩, by omega, ?_⟩
          (repeat' first | exact rfl | apply And.intro | exact subX_eq rfl (pureB_bytes _) | exact subX_eq rfl (pureB_aPs _) | exact subX_eq rfl rfl | decide | omega | apply subX_one)
          all_goals try simp (maxSteps := 4000000) only [subL]
          all_goals exact subX_eq rfl (pureB_aRs _)
      · have hc1 : decide ((k : Int) < (z.length : Int)) = false := decide_eq_false (by omega)
        have he : look1 nb z = none := by rw [← hg, List.drop_eq_nil_of_le (by omega)]; rfl
        simp (maxSteps := 4000000) only [↓wpA_H, ↓wpH_ret, ↓wpH_exit, ↓wpH_seq, ↓wpH_cond, ↓wpH_region, ↓iselH_false, bselH_false, runH_nil, runH_cons, gw, gselH_plain, cselH_bool, ↓chk, justK, noW, ↓oneK, ↓pureK, ↓heapK, ↓thenA_normal, ↓thenA_exit, ↓blockA_exit, ↓stepEv, opnd, Pg.look, binK, intOp, Bool.and_true, Bool.false_eq_true, implies_true, true_and, and_true, valV, heapV, footV, binV, intV, alives, aliveO, nxtQ, hdS, pairsA, frzA, closeQ_nil, closeQ_succ, diagQ_zero, diagQ_succ, Nat.reduceAdd, ofV, ofLeaf, retA, resK, tupA, subA, subQ, ptrsE, pairsO, frzO, subF, subG, pickOf, pairsE, pairsC, pairsL, pairs0, frzE, frzC, frzL, frz0, frzH, Pg.freeze, List.foldl_nil, subOs, subO, subEv, subV_succ, subM, subL, slen, ldCells, objAt, res_succ, resM, AV.cells, TK.cells, AV.leaf, AV.leafy, AV.pureLeaf, AV.pureB, putCells, lay, buildL, List.getElem?_cons_succ, List.getElem?_cons_zero, Option.getD_some, Option.getD_none, reduceCtorEq, Nat.reduceEqDiff, Nat.reduceAdd, Nat.reduceLT, List.nil_append, List.append_nil, List.cons_append, List.length_cons, List.length_nil, List.map_nil, List.set_cons_zero, List.set_cons_succ, Nat.zero_add, ite_true, ite_false, Option.some.injEq, Option.isSome_some, Option.isSome_none, AV.int.injEq, AV.agg.injEq, List.all_cons, List.all_nil, Bool.and_self, and_self, exists_eq_left', List.length_map, pureB_bytes, List.contains_nil, List.getD_cons_zero, cutL, List.drop_zero, List.drop_succ_cons, List.take_succ_cons, List.take_zero, Nat.add_zero, Nat.sub_zero, Nat.le_refl, List.drop_nil, List.take_nil, Nat.zero_lt_succ, regH_none, isNext, nextF, nextG, selC_false, mapAt, tk32, tk52, tz52, dz52, tk70, dz70, pureB_aRs, hc1, he, List.length_map]
        (repeat' first | exact rfl | apply And.intro | exact subX_eq rfl (pureB_bytes _) | exact subX_eq rfl (pureB_aPs _) | exact subX_eq rfl rfl | decide | omega | apply subX_one)
        all_goals try simp (maxSteps := 4000000) only [subL]
        all_goals exact subX_eq rfl (pureB_aRs _)
def kXGet : C1 := C1.mby (hCons hXf (hCons (hP .id cByte) hNil)) (fun d => d.1.1.length = d.1.2.1.length ∧ d.1.1.length ≤ 1000)
  (fun d => .tuple [aRg ((look1 (gname d.2.1) (d.1.1.zip d.1.2.1)).getD (0, [])), .bool (look1 (gname d.2.1) (d.1.1.zip d.1.2.1)).isSome]) (fun d => xH d.1.1 d.1.2.1)
theorem ok_XGet : C1OK Try.prog 43 kXGet := C1OK.mby (by kernel_rfl) (fun d h => by
    have := calls_XGet (d.1.1.zip d.1.2.1) d.2.1 (by rw [List.length_zip]; have := h.2; omega)
    rw [(zip_z _ _ h.1).1, (zip_z _ _ h.1).2] at this
    exact this) (fun _ _ => Nat.le_refl _)
end Go.Pg
