/- A register that is too large is refused whole. -/
import Derived.Test.YtohpkjpipihdoaaPgFr10
namespace Go.Pg
open Go Go.Proofs

/-- What is tried. -/
def limC (i : Nat) : UInt8 := [0, 97, 34, 66].getD i 0
theorem lim_cases {i : Nat} (h : i < 4) : limC i = 0 ∨ limC i = 97 ∨ limC i = 34 ∨ limC i = 66 := by
  rcases (by omega : i = 0 ∨ i = 1 ∨ i = 2 ∨ i = 3) with rfl | rfl | rfl | rfl <;> simp [limC]
theorem limC_get {i : Nat} (h : i < 4) : [(.int .u8 0 : AV), .int .u8 97, .int .u8 34, .int .u8 66].getD i (.int .u8 0) = .int .u8 (limC i).toNat := by
  rcases (by omega : i = 0 ∨ i = 1 ∨ i = 2 ∨ i = 3) with rfl | rfl | rfl | rfl <;> rfl
theorem lim_small {i : Nat} (h : i < 4) {r : RgV} (hr : lsz r.2 ≤ 4096) : ∃ m, setR (upd 48) [] (limC i) r = (0, m) ∧ stockR m ∧ look1 (gname (limC i)) m = some r := by
  have h48 : stockR (upd 34 r (upd 48 r [])) := stock_upd (stock_upd stock_nil hr) hr
  have hl : ∀ b : UInt8, stockR (upd 34 r [(b, r)]) := fun b => stock_upd (fun k v h => by simp only [look1] at h; split at h <;> cases h; exact hr) hr
  rcases lim_cases h with e | e | e | e <;> rw [e]
  · exact ⟨_, set_plain (upd 48) [] (.inl rfl) hr, h48, rfl⟩
  · exact ⟨_, set_letter (upd 48) (.inl ⟨rfl, rfl⟩) hr, hl 97, rfl⟩
  · exact ⟨_, set_plain (upd 48) [] (.inr rfl) hr, h48, rfl⟩
  · exact ⟨_, set_letter (upd 48) (.inr ⟨rfl, rfl⟩) hr, hl 98, rfl⟩
theorem lim_large {i : Nat} (h : i < 4) {r : RgV} (hr : ¬ lsz r.2 ≤ 4096) : setR (upd 48) [] (limC i) r = (21, []) := by
  have hr' : lsz r.2 > 4096 := by omega
  have hp : ∀ b, (isLow b = true ∨ isUp b = true) → putR [] b r = (21, []) := fun b hb => by
    unfold putR namedR
    by_cases h1 : isLow b = true
    · rw [if_pos h1, if_pos rfl, if_pos hr']
    · rw [if_neg h1, if_pos (hb.resolve_left h1), if_pos rfl]
      exact if_pos hr'
  rcases lim_cases h with e | e | e | e <;> rw [e] <;> unfold setR
  · rw [if_neg (by decide), if_neg (by decide), if_pos hr']
  · rw [if_neg (by decide), if_pos (by decide), hp 97 (.inl rfl)]; rfl
  · rw [if_neg (by decide), if_neg (by decide), if_pos hr']
  · rw [if_neg (by decide), if_pos (by decide), hp 66 (.inr rfl)]; rfl
/-- The name of a letter, of what is there. -/
theorem lim_join (q : List UInt8) : joinR (0, [[120, 121]]) (0, [q]) = (0, [120 :: 121 :: q]) := rfl
theorem lim_again (q : List UInt8) : setR (upd 48) [(97, (0, [[120, 121]]))] 65 (0, [q]) = if (q.length : Int) + 3 ≤ 4096 then (0, [(97, (0, [120 :: 121 :: q])), (34, (0, [120 :: 121 :: q]))]) else (21, [(97, (0, [[120, 121]]))]) := by
  have hn : namedR [(97, (0, [[120, 121]]))] 65 (0, [q]) = (97, (0, [120 :: 121 :: q]), true) := rfl
  have hz : lsz [120 :: 121 :: q] = (q.length : Int) + 3 := by simp [lsz]; omega
  unfold setR
  rw [if_neg (by decide), if_pos (by decide)]
  unfold putR
  rw [hn]
  by_cases h : (q.length : Int) + 3 ≤ 4096
  · rw [if_pos h, if_pos rfl]
    rw [if_neg (show ¬ lsz [120 :: 121 :: q] > 4096 by omega)]
    rfl
  · rw [if_neg h, if_pos rfl]
    rw [if_pos (show lsz [120 :: 121 :: q] > 4096 by omega)]
    rfl

set_option maxRecDepth 20000 in
set_option maxHeartbeats 8000000 in
theorem calls_RegsLimit (n name : UInt8) (again : Bool) : CallsR Try.prog 11 [.int .u8 n.toNat, .int .u8 name.toNat, .bool again] [] (.bool true) [] := by
  refine callsR_of (mrg := true) (dyn := [16]) (cLaw19) mixed Try.func11 rfl (by simp [Try.ntmps11]) (by kernel_rfl) ?_
  rw [show Try.f11.results.toList = [.tmp 6] from by kernel_rfl]
  have q5 : (n.toNat : Int).tmod 5 = ((n.toNat % 5 : Nat) : Int) := rfl
  have q4 : (name.toNat : Int).tmod 4 = ((name.toNat % 4 : Nat) : Int) := rfl
  obtain ⟨j, hj⟩ : ∃ j, j = n.toNat % 5 := ⟨_, rfl⟩
  obtain ⟨i, hi⟩ : ∃ i, i = name.toNat % 4 := ⟨_, rfl⟩
  have hj5 : j < 5 := by omega
  have hi4 : i < 4 := by omega
  rw [← hj] at q5
  rw [← hi] at q4
  clear hj hi
  have w0 : IntKind.i64.wrap (j : Int) = (j : Int) := wrap64 (by omega) (by omega)
  have w1 : IntKind.i64.wrap (4093 + (j : Int)) = ((4093 + j : Nat) : Int) := by rw [wrap64 (by omega) (by omega)]; omega
  obtain ⟨k, hk⟩ : ∃ k, k = 4093 + j := ⟨_, rfl⟩
  rw [← hk] at w1
  have hk2 : k ≤ 4097 ∧ 4093 ≤ k := by omega
  clear hk
  have w2 : IntKind.i64.wrap ((k : Int) + 1) = ((k + 1 : Nat) : Int) := by rw [wrap64 (by omega) (by omega)]; omega
  have w3 : IntKind.i64.wrap ((k : Int) + 2) = ((k + 2 : Nat) : Int) := by rw [wrap64 (by omega) (by omega)]; omega
  have w4 : IntKind.i64.wrap (((k + 2 : Nat) : Int) + 1) = ((k + 3 : Nat) : Int) := by rw [wrap64 (by omega) (by omega)]; omega
  obtain ⟨q, hq⟩ : ∃ q : List UInt8, q = List.replicate k 0 := ⟨_, rfl⟩
  have hql : q.length = k := by rw [hq, List.length_replicate]
  have hrep : List.replicate k (.int .u8 0 : AV) = ofBytes q := by rw [hq]; unfold ofBytes; rw [List.map_replicate]; rfl
  have hlo : (ofBytes q).length = k := by rw [← hql]; exact length_ofBytes q
  clear hq
  have hgd := limC_get hi4
  have hz : lsz [q] = (k : Int) + 1 := by simp [lsz, hql]
  have hoa : okArg (0, [q]) := ⟨by simp, by show lsz [q] ≤ _; omega⟩
  cases again with
  | false =>
    obtain ⟨c, hc⟩ : ∃ c, c = limC i := ⟨_, rfl⟩
    rw [← hc] at hgd
    by_cases hs : k + 1 ≤ 4096
    · have cs : decide (((k + 1 : Nat) : Int) ≤ 4096) = true := decide_eq_true (by omega)
      obtain ⟨m, hm, hst, hg⟩ := lim_small hi4 (r := (0, [q])) (by show lsz [q] ≤ _; omega)
      rw [← hc] at hm hg
      clear hc
      simp (maxSteps := 4000000) only [↓wpA_H, ↓wpH_skip, ↓wpH_ret, ↓wpH_seq, ↓wpH_cond, ↓wpH_region, ↓iselH_true, ↓iselH_false, bselH_false, runH_nil, runH_cons, gw, gselH_plain, gselH_if, kselH_1, cselH_bool, gkind, ↓chk, justK, noW, ↓oneK, ↓pureK, ↓heapK, envOf, ↓thenA_normal, ↓thenA_ret, ↓stepEv, opnd, Pg.look, binK, intOp, dstOf, Bool.not_false, Bool.not_true, Bool.false_eq_true, Bool.true_eq_false, false_implies, implies_true, imp_self, true_and, and_true, pickC, pickV, unc, gof, mux, mergeK, condsL, valV, heapV, footV, binV, intV, alives, closeQ_nil, diagQ_zero, Nat.reduceAdd, mergeable, look_stripE, ofV, ofLeaf, sameK, retA, resK, tupA, subA, subQ, ptrsE, frzO, subF, subG, pickOf, frzE, frzC, frz0, frzH, Pg.freeze, List.foldl_nil, List.foldl_cons, subOs, subEv, subV_succ, subM, slen, srcV, srcL, ldCells, objAt, ↓callT, callC, callV, callH, normArgs, normA, normC, normL, resL, res8_eq, res_succ, resM, shiftR, shift1, AV.cells, TK.cells, AV.definite, AV.leaf, AV.leafy, AV.pureLeaf, AV.pureB, putCells, lay, buildL, frzAt, Op.operands, Call.operands, Array.toList_append, List.getElem?_toArray, List.getElem?_cons_succ, List.getElem?_cons_zero, Option.bind_some, Option.getD_some, reduceCtorEq, Nat.reduceEqDiff, Nat.reduceAdd, Nat.reduceSub, List.nil_append, List.append_nil, List.cons_append, List.length_cons, List.length_nil, List.map_cons, List.map_nil, List.set_cons_zero, List.set_cons_succ, Nat.zero_add, Int.reduceToNat, ite_true, ite_false, Option.some.injEq, Option.isSome_some, AV.int.injEq, AV.str.injEq, AV.agg.injEq, Prod.mk.injEq, ne_eq, not_false_eq_true, List.all_cons, List.all_nil, Bool.and_self, and_self, exists_eq_left', pickOK_nil, cInt_dec, List.toList_toArray, rg1, rg4, cByte_dec, Int.reduceLE, bytesOf_ofBytes, cStr_dec, cSl_dec, cAgg_dec, lNil_dec, lOne_dec, lCons_dec, dec2_some, List.contains_cons, List.contains_nil, Nat.reduceBEq, Bool.or_self, Bool.or_false, beq_self_eq_true, decL_nil, decL_cons, consO_some, Int.cast_ofNat_Int, List.range'_zero, Nat.reducePow, C1by_ns, C1by_pre, C1by_r, C1by_H, optP_some, optV_some, optH_some, Int.toNat_natCast, List.getD_cons_zero, List.getD_cons_succ, cutL, List.drop_zero, List.drop_succ_cons, List.take_succ_cons, List.take_zero, Nat.sub_zero, Nat.sub_self, Nat.reduceLeDiff, Nat.le_refl, Nat.mul_one, List.drop_nil, List.take_nil, Nat.zero_lt_succ, C1by_it, regH_none, isNext, nextF, nextG, selC_false, ↓msel, muC, ↓callP, ↓callU, ↓callUV, ↓callUH, ↓callUF, C1by_mu, C1mby_mu, runM_eq, mkM_some, hNil_dec, hCons_dec, app3_some, hP_dec, hP1_some, hP2_some, hO1_some, hM1_mp, hMp_dec, hB1_some, hB2_arr, hBox_dec, hAgg_dec, decE_nil, encE_nil, pickF, nodupB, somes, fresh, gids, gid, putO, ren, renL, renO, List.range'_succ, tk3, tk5, tz5, dz5, eb5, tk9, dz9, eb9, tk32, tk50, tk52, tz52, dz52, kKnown19, kRNew, kRCut, kRYank, kRPut, kRGet, kHReg, kStrings, hFile, decE_rg, rgH, q5, q4, w0, w1, w2, hrep, hlo, hql, bytesOf_ofBytes, hgd, cs, hm, hg]
      exact ⟨by decide, ⟨by omega, by omega⟩, by decide, ⟨by omega, by omega⟩, by omega, ⟨stock_nil, hoa⟩, fun v h => by (cases h; simp)⟩
    · have cs : decide (((k + 1 : Nat) : Int) ≤ 4096) = false := decide_eq_false (by omega)
      have hm := lim_large hi4 (r := (0, [q])) (by show ¬ lsz [q] ≤ _; omega)
      rw [← hc] at hm
      clear hc
      simp (maxSteps := 4000000) only [↓wpA_H, ↓wpH_skip, ↓wpH_ret, ↓wpH_seq, ↓wpH_cond, ↓wpH_region, bselH_true, ↓iselH_true, ↓iselH_false, bselH_false, runH_nil, runH_cons, ↓fixG, setG, gw, gselH_plain, gselH_if, kselH_0, kselH_2, cselH_bool, gkind, ↓chk, pickO, justK, noW, ↓oneK, ↓pureK, ↓heapK, envOf, ↓thenA_normal, ↓stepEv, opnd, Pg.look, binK, intOp, dstOf, Bool.and_true, Bool.not_false, Bool.not_true, Bool.false_eq_true, Bool.true_eq_false, false_implies, implies_true, imp_self, true_and, and_true, pickC, pickV, unc, gof, mux, valV, heapV, footV, binV, intV, alives, closeQ_nil, diagQ_zero, Nat.reduceAdd, mergeable, ofV, ofLeaf, retA, resK, tupA, subA, subQ, ptrsE, frzO, subF, subG, pickOf, frzE, frzC, frz0, frzH, Pg.freeze, List.foldl_nil, List.foldl_cons, subOs, subEv, subV_succ, subM, slen, srcV, srcL, ldCells, objAt, ↓callT, callC, callV, callH, normArgs, normA, normC, normL, resL, res8_eq, res_succ, resM, shiftR, shift1, AV.cells, TK.cells, AV.definite, AV.leaf, AV.leafy, AV.pureLeaf, AV.pureB, putCells, lay, buildL, frzAt, List.getElem?_toArray, List.getElem?_cons_succ, List.getElem?_cons_zero, Option.bind_some, Option.getD_some, reduceCtorEq, Nat.reduceEqDiff, Nat.reduceAdd, Nat.reduceSub, List.nil_append, List.append_nil, List.cons_append, List.length_cons, List.length_nil, List.map_cons, List.map_nil, List.set_cons_zero, List.set_cons_succ, Nat.zero_add, ite_true, ite_false, Option.some.injEq, Option.isSome_some, AV.int.injEq, AV.str.injEq, AV.agg.injEq, Prod.mk.injEq, ne_eq, not_false_eq_true, List.all_cons, List.all_nil, Bool.and_self, and_self, exists_eq_left', pickOK_nil, List.length_map, cInt_dec, rg1, rg4, cByte_dec, bytesOf_ofBytes, cStr_dec, cSl_dec, cAgg_dec, lNil_dec, lOne_dec, lCons_dec, dec2_some, List.contains_cons, List.contains_nil, Nat.reduceBEq, Bool.or_self, Bool.or_false, beq_self_eq_true, decL_nil, decL_cons, consO_some, Int.cast_ofNat_Int, List.range'_zero, Nat.reducePow, C1by_ns, C1by_pre, C1by_r, C1by_H, optP_some, optV_some, optH_some, Int.toNat_natCast, List.getD_cons_zero, List.getD_cons_succ, cutL, List.drop_zero, List.drop_succ_cons, List.take_succ_cons, List.take_zero, Nat.sub_zero, Nat.sub_self, Nat.reduceLeDiff, Nat.le_refl, Nat.mul_one, List.drop_nil, List.take_nil, Nat.zero_lt_succ, C1by_it, regH_none, isNext, nextF, nextG, selC_false, ↓msel, muC, ↓callP, ↓callU, ↓callUV, ↓callUH, ↓callUF, C1by_mu, C1mby_mu, runM_eq, mkM_some, hNil_dec, hCons_dec, app3_some, hP_dec, hP1_some, hP2_some, hO1_some, hM1_mp, hMp_dec, hB1_some, hB2_arr, hBox_dec, hAgg_dec, decE_nil, encE_nil, pickF, nodupB, somes, fresh, gids, gid, putO, ren, renL, renO, List.range'_succ, tk3, tk5, tz5, dz5, eb5, tk9, eb9, tk32, tk50, tk52, tz52, dz52, kKnown19, kRNew, kRCut, kRYank, kRPut, kRGet, kHReg, kStrings, hFile, rgH, q5, q4, w0, w1, w2, hrep, hlo, bytesOf_ofBytes, hgd, cs, hm]
      exact ⟨by decide, ⟨by omega, by omega⟩, by decide, ⟨by omega, by omega⟩, by omega, ⟨stock_nil, hoa⟩, (fun v h => by cases h), rfl⟩
  | true =>
    obtain ⟨m0, hm0⟩ : ∃ m : Rgs, m = [(97, (0, [[120, 121]]))] := ⟨_, rfl⟩
    have hput : putR [] 97 (0, [[120, 121]]) = (0, m0) := by rw [hm0]; rfl
    have hm := lim_again q
    rw [← hm0] at hm
    have hst0 : stockR m0 := by rw [hm0]; exact fun k v h => by simp only [look1] at h; split at h <;> cases h; decide
    have hg0 : look1 (gname 65) m0 = some (0, [[120, 121]]) := by rw [hm0]; rfl
    clear hm0
    by_cases hs : k + 3 ≤ 4096
    · have cs : decide (((k + 3 : Nat) : Int) ≤ 4096) = true := decide_eq_true (by omega)
      rw [if_pos (by omega)] at hm
      obtain ⟨m, hmd⟩ : ∃ m : Rgs, m = [(97, (0, [120 :: 121 :: q])), (34, (0, [120 :: 121 :: q]))] := ⟨_, rfl⟩
      have hg : look1 (gname 65) m = some (0, [120 :: 121 :: q]) := by rw [hmd]; rfl
      rw [← hmd] at hm
      clear hmd
      simp (maxSteps := 4000000) only [↓wpA_H, ↓wpH_skip, ↓wpH_ret, ↓wpH_seq, ↓wpH_cond, ↓wpH_region, ↓iselH_true, ↓iselH_false, bselH_false, runH_nil, runH_cons, gw, gselH_plain, gselH_if, kselH_1, cselH_bool, gkind, ↓chk, justK, noW, ↓oneK, ↓pureK, ↓heapK, envOf, ↓thenA_normal, ↓thenA_ret, ↓stepEv, opnd, Pg.look, binK, intOp, dstOf, Bool.not_false, Bool.not_true, Bool.false_eq_true, Bool.true_eq_false, false_implies, implies_true, imp_self, true_and, and_true, pickC, pickV, unc, gof, mux, mergeK, condsL, valV, heapV, footV, binV, intV, alives, closeQ_nil, diagQ_zero, Nat.reduceAdd, mergeable, look_stripE, ofV, ofLeaf, sameK, retA, resK, tupA, subA, subQ, ptrsE, frzO, subF, subG, pickOf, frzE, frzC, frz0, frzH, Pg.freeze, List.foldl_nil, List.foldl_cons, subOs, subEv, subV_succ, subM, slen, srcV, srcL, ldCells, objAt, ↓callT, callC, callV, callH, normArgs, normA, normC, normL, resL, res8_eq, res_succ, resM, shiftR, shift1, AV.cells, TK.cells, AV.definite, AV.leaf, AV.leafy, AV.pureLeaf, AV.pureB, putCells, lay, buildL, frzAt, Op.operands, Call.operands, Array.toList_append, List.getElem?_toArray, List.getElem?_cons_succ, List.getElem?_cons_zero, Option.bind_some, Option.getD_some, reduceCtorEq, Nat.reduceEqDiff, Nat.reduceAdd, Nat.reduceSub, List.nil_append, List.append_nil, List.cons_append, List.length_cons, List.length_nil, List.map_cons, List.map_nil, List.set_cons_zero, List.set_cons_succ, Nat.zero_add, Int.reduceToNat, ite_true, ite_false, Option.some.injEq, Option.isSome_some, AV.int.injEq, AV.str.injEq, AV.agg.injEq, Prod.mk.injEq, ne_eq, not_false_eq_true, List.all_cons, List.all_nil, Bool.and_self, and_self, exists_eq_left', pickOK_nil, cInt_dec, List.toList_toArray, rg1, rg4, cByte_lit, Int.reduceLE, Int.reduceLT, UInt8.reduceOfNat, bytesOf_ofBytes, cStr_dec, cSl_dec, cAgg_dec, lNil_dec, lOne_dec, lCons_dec, dec2_some, List.contains_cons, List.contains_nil, Nat.reduceBEq, Bool.or_self, Bool.or_false, beq_self_eq_true, decL_nil, decL_cons, consO_some, Int.cast_ofNat_Int, List.range'_zero, Nat.reducePow, bne_self_eq_false, C1by_ns, C1by_pre, C1by_r, C1by_H, optP_some, optV_some, optH_some, Int.toNat_natCast, List.getD_cons_zero, List.getD_cons_succ, cutL, List.drop_zero, List.drop_succ_cons, List.take_succ_cons, List.take_zero, Nat.sub_zero, Nat.sub_self, Nat.reduceLeDiff, Nat.le_refl, Nat.mul_one, List.drop_nil, List.take_nil, Nat.zero_lt_succ, C1by_it, regH_none, isNext, nextF, nextG, selC_false, ↓msel, muC, ↓callP, ↓callU, ↓callUV, ↓callUH, ↓callUF, C1by_mu, C1mby_mu, runM_eq, mkM_some, hNil_dec, hCons_dec, app3_some, hP_dec, hP1_some, hP2_some, hO1_some, hM1_mp, hMp_dec, hB1_some, hB2_arr, hBox_dec, hAgg_dec, decE_nil, encE_nil, pickF, nodupB, somes, fresh, gids, gid, putO, ren, renL, renO, List.range'_succ, tk3, tk5, tz5, dz5, eb5, tk9, dz9, eb9, tk32, tk50, tk52, tz52, dz52, kKnown19, kRNew, kRCut, kRYank, kRPut, kRGet, kHReg, kStrings, hFile, decE_rg, rgH, q5, q4, w0, w1, w3, w4, hrep, hlo, hql, bytesOf_ofBytes, hgd, cs, hput, hm, hg]
      exact ⟨by decide, ⟨by omega, by omega⟩, by decide, ⟨by omega, by omega⟩, by omega, ⟨stock_nil, by decide, by decide⟩, ⟨hst0, hoa⟩, fun v h => by (cases h; simp)⟩
    · have cs : decide (((k + 3 : Nat) : Int) ≤ 4096) = false := decide_eq_false (by omega)
      rw [if_neg (by omega)] at hm
      simp (maxSteps := 4000000) only [↓wpA_H, ↓wpH_skip, ↓wpH_ret, ↓wpH_seq, ↓wpH_cond, ↓wpH_region, bselH_true, ↓iselH_true, ↓iselH_false, bselH_false, runH_nil, runH_cons, ↓fixG, setG, gw, gselH_plain, gselH_if, kselH_0, kselH_2, cselH_bool, gkind, ↓chk, pickO, justK, noW, ↓oneK, ↓pureK, ↓heapK, envOf, ↓thenA_normal, ↓stepEv, opnd, Pg.look, binK, intOp, dstOf, Bool.and_false, Bool.and_true, Bool.not_false, Bool.not_true, Bool.false_eq_true, Bool.true_eq_false, false_implies, implies_true, imp_self, true_and, and_true, forall_const, pickC, pickV, unc, gof, mux, valV, heapV, footV, binV, intV, alives, closeQ_nil, diagQ_zero, Nat.reduceAdd, mergeable, ofV, ofLeaf, retA, resK, tupA, subA, subQ, ptrsE, frzO, subF, subG, pickOf, frzE, frzC, frz0, frzH, Pg.freeze, List.foldl_nil, List.foldl_cons, subOs, subEv, subV_succ, subM, srcV, srcL, ldCells, objAt, ↓callT, callC, callV, callH, normArgs, normA, normC, normL, resL, res8_eq, res_succ, resM, shiftR, shift1, AV.cells, TK.cells, AV.definite, AV.leaf, AV.leafy, AV.pureLeaf, AV.pureB, putCells, lay, buildL, frzAt, List.getElem?_toArray, List.getElem?_cons_succ, List.getElem?_cons_zero, Option.bind_some, Option.getD_some, reduceCtorEq, Nat.reduceEqDiff, Nat.reduceAdd, Nat.reduceSub, List.nil_append, List.append_nil, List.cons_append, List.length_cons, List.length_nil, List.map_cons, List.map_nil, List.set_cons_zero, List.set_cons_succ, Nat.zero_add, Int.reduceToNat, ite_true, ite_false, Option.some.injEq, Option.isSome_some, AV.str.injEq, AV.agg.injEq, Prod.mk.injEq, ne_eq, not_false_eq_true, List.all_cons, List.all_nil, Bool.and_self, and_self, exists_eq_left', pickOK_nil, cInt_dec, rg1, rg4, cByte_lit, Int.reduceLE, Int.reduceLT, UInt8.reduceOfNat, bytesOf_ofBytes, cStr_dec, cSl_dec, cAgg_dec, lNil_dec, lOne_dec, lCons_dec, dec2_some, List.contains_cons, List.contains_nil, Nat.reduceBEq, Bool.or_self, Bool.or_false, beq_self_eq_true, decL_nil, decL_cons, consO_some, Int.cast_ofNat_Int, List.range'_zero, Nat.reducePow, bne_self_eq_false, C1by_ns, C1by_pre, C1by_r, C1by_H, optP_some, optV_some, optH_some, Int.toNat_natCast, List.getD_cons_zero, List.getD_cons_succ, cutL, List.drop_zero, List.drop_succ_cons, List.take_succ_cons, List.take_zero, Nat.sub_zero, Nat.sub_self, Nat.reduceLeDiff, Nat.le_refl, Nat.mul_one, List.drop_nil, List.take_nil, Nat.zero_lt_succ, C1by_it, regH_none, isNext, nextF, nextG, selC_false, ↓msel, muC, ↓callP, ↓callU, ↓callUV, ↓callUH, ↓callUF, C1by_mu, C1mby_mu, runM_eq, mkM_some, hNil_dec, hCons_dec, app3_some, hP_dec, hP1_some, hP2_some, hO1_some, hM1_mp, hMp_dec, hB1_some, hB2_arr, hBox_dec, hAgg_dec, decE_nil, encE_nil, pickF, nodupB, somes, fresh, gids, gid, putO, ren, renL, renO, List.range'_succ, tk3, tk5, tz5, dz5, eb5, tk9, eb9, tk32, tk50, tk52, tz52, dz52, kKnown19, kRNew, kRCut, kRYank, kRPut, kRGet, kHReg, kStrings, hFile, decE_rg, rgH, q5, q4, w0, w1, w3, w4, hrep, hlo, bytesOf_ofBytes, hgd, cs, hput, hm, hg0]
      exact ⟨by decide, ⟨by omega, by omega⟩, by decide, ⟨by omega, by omega⟩, by omega, ⟨stock_nil, by decide, by decide⟩, ⟨hst0, hoa⟩, fun v h => by (cases h; simp)⟩
end Go.Pg
