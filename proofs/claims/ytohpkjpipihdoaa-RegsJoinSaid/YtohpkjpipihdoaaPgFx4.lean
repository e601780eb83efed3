/- Sorting of bytes: the partitions. Sorting of bytes: what equals the pivot is set aside. -/
import Derived.Test.YtohpkjpipihdoaaPgFx3
namespace Go.Pg
open Go Go.Proofs

theorem scanU_yes {p : UInt8 → Bool} {l : List UInt8} {j i : Nat} (h : i ≤ j) (hp : p (l.getD i 0) = true) : scanU p l j (i + 1) = scanU p l j i := by
  rw [scanU_eq p l j i, if_pos (by rw [hp, decide_eq_true h]; rfl)]
theorem scanU_no {p : UInt8 → Bool} {l : List UInt8} {j i : Nat} (h : ¬ (i ≤ j ∧ p (l.getD i 0) = true)) : scanU p l j i = i := by
  rw [scanU_eq, if_neg (by simpa using h)]
theorem scanN_yes {p : UInt8 → Bool} {l : List UInt8} {j i : Nat} (h : i ≤ j + 1) (hp : p (l.getD (j + 1) 0) = true) : scanN p l i j = scanN p l i (j + 1) := by
  rw [scanN_succ, if_pos (by rw [hp, decide_eq_true h]; rfl)]
theorem scanN_no {p : UInt8 → Bool} {l : List UInt8} {j i : Nat} (h : ¬ (i ≤ j ∧ p (l.getD j 0) = true)) : scanN p l i j = j := by
  cases j with
  | zero => rfl
  | succ j => rw [scanN_succ, if_neg (by simpa using h)]

set_option maxRecDepth 20000 in
set_option maxHeartbeats 4000000 in
theorem calls_part (l : List UInt8) (a b pv : Nat) (hap : a ≤ pv) (hpb : pv < b) (hb : b ≤ l.length) (hl : l.length ≤ 1000) :
    CallsR Try.prog 77 [.own 0 1 l.length, .int .i64 a, .int .i64 b, .int .i64 pv] [.arr 5 1 (ofBytes l)]
      (.tuple [.int .i64 (part a b pv l).1, .bool (part a b pv l).2.1]) [.arr 5 1 (ofBytes (part a b pv l).2.2)] := by
  refine callsR_of (mrg := true) (dyn := []) (CtrOK.cons ok_Less (CtrOK.nil _)) mixed Try.func77 rfl (by simp [Try.ntmps77]) (by kernel_rfl) ?_
  rw [show Try.f77.results.toList = [.tmp 8, .tmp 9] from by kernel_rfl]
  have w0 : IntKind.i64.wrap ((a : Int) + 1) = ((a + 1 : Nat) : Int) := by rw [wrap64 (by omega) (by omega)]; omega
  have w1 : IntKind.i64.wrap ((b : Int) - 1) = ((b - 1 : Nat) : Int) := by rw [wrap64 (by omega) (by omega)]; omega
  have hsw : ∀ (q : List UInt8) (i j : Nat), (q.set i (q.getD j 0)).set j (q.getD i 0) = swpL q i j := fun _ _ _ => rfl
  simp (maxSteps := 4000000) only [↓wpA_H, ↓wpH_seq, ↓wpH_block, ↓wpH_loop, ↓wpH_region, bselH_false, runH_nil, runH_cons, gw, gselH_plain, ↓chk, justK, noW, ↓oneK, ↓pureK, ↓heapK, envOf, ↓thenA_normal, ↓stepEv, opnd, Pg.look, binK, intOp, Bool.false_eq_true, implies_true, true_and, and_true, valV, heapV, footV, binV, intV, Nat.reduceAdd, ofV, ofLeaf, ldCells, objAt, AV.cells, TK.cells, AV.leaf, AV.leafy, putCells, List.getElem?_cons_zero, Option.getD_some, reduceCtorEq, Nat.reduceEqDiff, Nat.reduceAdd, List.length_cons, List.length_nil, List.set_cons_zero, Nat.zero_add, ite_true, ite_false, Option.some.injEq, Option.isSome_none, List.all_cons, List.all_nil, Bool.and_self, and_self, exists_eq_left', length_ofBytes, getD_ofBytes, set_ofBytes, List.length_set, List.contains_nil, Int.toNat_natCast, Nat.le_refl, Nat.zero_lt_succ, regH_none, isNext, nextF, nextG, selC_true, selC_false, pureC, C1by_mu, tk5, dz5, tk32, kLess, w0, w1, hsw]
  repeat (first | refine And.intro ⟨by omega, by omega⟩ ?_ | refine And.intro (by omega) ?_)
  obtain ⟨m, hmd⟩ : ∃ m, m = swpL l a pv := ⟨_, rfl⟩
  have hm : m.length = l.length := by rw [hmd, swpL_len]
  rw [← hmd]
  obtain ⟨I, hI⟩ : ∃ I, I = scanU (pU a m) m (b - 1) (a + 1) := ⟨_, rfl⟩
  have hI1 : a + 1 ≤ I := by rw [hI]; exact scanU_ge _ _ _ _
  have hI2 : I ≤ b := by have := scanU_le (pU a m) m (b - 1) _ (a + 1) (Nat.le_refl _) (by omega); omega
  obtain ⟨J, hJ⟩ : ∃ J, J = scanN (pD a m) m I (b - 1) := ⟨_, rfl⟩
  have hJ1 : J ≤ b - 1 := by rw [hJ]; exact scanN_le _ _ _ _
  have hJ2 : I ≤ J + 1 := by rw [hJ]; exact scanN_ge _ _ _ _ (by omega)
  have hP := part_eq a b pv l m I J hmd hI hJ
  refine loopH_intro (α := Nat) (fun i => ([(10, .int .i64 i), (11, .int .i64 (b - 1 : Nat)), (0, .own 0 1 l.length), (1, .int .i64 a)], [.arr 5 1 (ofBytes m)]))
    (fun i => a + 1 ≤ i ∧ i ≤ b ∧ scanU (pU a m) m (b - 1) i = I) (fun i => b - i) (a + 1) ⟨Nat.le_refl _, by omega, hI.symm⟩ ?_ ?_
  · simp (maxSteps := 4000000) only [Pg.look, true_and, and_true, alives, aliveO, nxtQ, hdS, pairsA, frzA, closeQ_nil, closeQ_succ, diagQ_zero, diagQ_succ, subA, subQ, ptrsE, pairsO, frzO, subF, subG, pickOf, assocN, pairsE, pairsC, pairs0, frzE, frzC, frz0, frzH, Pg.freeze, List.foldl_nil, subOs, subO, subEv, subV_succ, subM, List.getElem?_cons_zero, reduceCtorEq, Nat.reduceEqDiff, List.nil_append, List.append_nil, ite_true, ite_false, and_self, pureB_bytes, Nat.zero_lt_succ]
    exact ⟨by decide, subX_eq rfl (pureB_bytes _)⟩
  rintro i ⟨hi1, hi2, hi3⟩
  have hi1 : a + 1 ≤ i := hi1
  have hi2 : i ≤ b := hi2
  have hi3 : scanU (pU a m) m (b - 1) i = I := hi3
  simp (maxSteps := 4000000) only [↓wpA_H, ↓wpH_skip, ↓wpH_exit, ↓wpH_seq, ↓wpH_cond, ↓wpH_block, ↓wpH_loop, ↓wpH_region, iselH_if, bselH_false, runH_nil, runH_cons, gw, gselH_plain, gselH_if, kselH_1, cselH_bool, gkind, ↓chk, justK, noW, ↓oneK, ↓pureK, ↓heapK, ↓thenA_normal, ↓thenA_exit, ↓blockA_normal, ↓blockA_exit, ↓stepEv, opnd, Pg.look, binK, intOp, dstOf, Bool.false_eq_true, implies_true, imp_self, true_and, and_true, pickC, pickV, unc, gof, mux, mergeK, condsL, valV, heapV, footV, binV, intV, alives, aliveO, nxtQ, hdS, pairsA, frzA, closeQ_nil, closeQ_succ, diagQ_zero, diagQ_succ, mergeable, look_stripE, ofV, ofLeaf, sameK, retA, subA, subQ, ptrsE, pairsO, frzO, subF, subG, pickOf, assocN, pairsE, pairsC, pairs0, frzE, frzC, frz0, frzH, Pg.freeze, List.foldl_nil, subOs, subO, subEv, subV_succ, subM, ldCells, objAt, ↓callT, callC, callV, normArgs, normA, resL, res8_eq, res_succ, resM, shiftR, shift1, AV.cells, TK.cells, Op.operands, Call.operands, Array.toList_append, List.getElem?_toArray, List.getElem?_cons_succ, List.getElem?_cons_zero, Option.bind_some, Option.getD_some, reduceCtorEq, Nat.reduceEqDiff, List.nil_append, List.append_nil, List.cons_append, List.length_cons, List.length_nil, List.map_cons, List.map_nil, Nat.zero_add, ite_true, ite_false, Option.some.injEq, Option.isSome_none, Bool.if_false_right, decide_eq_true_eq, decide_eq_false_iff_not, Int.not_le, Bool.and_self, and_self, exists_eq_left', List.toList_toArray, length_ofBytes, getD_ofBytes, cByte_dec, lOne_dec, lCons_dec, dec2_some, pureB_bytes, List.contains_nil, List.range'_zero, C1by_ns, C1by_pre, C1by_r, C1by_H, optP_some, optV_some, optH_some, Int.toNat_natCast, Nat.zero_lt_succ, C1by_it, regH_none, isNext, nextF, nextG, selC_true, selC_false, pureC, ↓msel, muC, ↓callP, C1by_mu, tk5, dz5, tk32, kLess]
  refine ⟨fun h => ⟨h, by omega, by omega⟩, fun h => ⟨h, hm, by omega⟩, fun h => ⟨h, by omega, by omega⟩, fun h => ⟨h, hm, by omega⟩, fun h => ?_, fun h => ?_⟩
  · simp only [Bool.and_eq_true, decide_eq_true_eq] at h
    exact ⟨i + 1, ⟨by omega, by omega, by rw [← hi3]; exact scanU_yes (by omega) h.2⟩, by omega, by decide, subX_eq rfl (pureB_bytes _), by rw [wrap64 (by omega) (by omega)]; rfl⟩
  obtain rfl : i = I := by
    rw [← hi3, scanU_no]
    rintro ⟨h1, h2⟩
    have h2 : ltB (m.getD i 0) (m.getD a 0) = true := h2
    rw [h2, Bool.and_true, decide_eq_false_iff_not] at h
    omega
  refine loopH_intro (α := Nat) (fun j => ([(10, .int .i64 i), (11, .int .i64 j), (0, .own 0 1 l.length), (1, .int .i64 a)], [.arr 5 1 (ofBytes m)]))
    (fun j => a ≤ j ∧ j ≤ b - 1 ∧ scanN (pD a m) m i j = J) (fun j => j) (b - 1) ⟨by omega, Nat.le_refl _, hJ.symm⟩ ?_ ?_
  · simp (maxSteps := 4000000) only [Pg.look, true_and, and_true, alives, aliveO, nxtQ, hdS, pairsA, frzA, closeQ_nil, closeQ_succ, diagQ_zero, diagQ_succ, subA, subQ, ptrsE, pairsO, frzO, subF, subG, pickOf, assocN, pairsE, pairsC, pairs0, frzE, frzC, frz0, frzH, Pg.freeze, List.foldl_nil, subOs, subO, subEv, subV_succ, subM, List.getElem?_cons_zero, reduceCtorEq, Nat.reduceEqDiff, List.nil_append, List.append_nil, ite_true, ite_false, and_self, pureB_bytes, Nat.zero_lt_succ]
    exact ⟨by decide, subX_eq rfl (pureB_bytes _)⟩
  rintro j ⟨hj1, hj2, hj3⟩
  have hj1 : a ≤ j := hj1
  have hj2 : j ≤ b - 1 := hj2
  have hj3 : scanN (pD a m) m i j = J := hj3
  simp (maxSteps := 4000000) only [↓wpA_H, ↓wpH_skip, ↓wpH_ret, ↓wpH_exit, ↓wpH_seq, ↓wpH_cond, ↓wpH_block, ↓wpH_loop, ↓wpH_region, iselH_if, bselH_false, runH_nil, runH_cons, gw, gselH_plain, gselH_if, kselH_1, cselH_bool, gkind, ↓chk, justK, noW, ↓oneK, ↓pureK, ↓heapK, ↓thenA_normal, ↓thenA_ret, ↓thenA_exit, ↓blockA_normal, ↓blockA_exit, ↓stepEv, opnd, Pg.look, binK, intOp, dstOf, Bool.false_eq_true, implies_true, imp_self, true_and, and_true, pickC, pickV, unc, gof, mux, mergeK, condsL, valV, heapV, footV, binV, intV, alives, aliveO, nxtQ, hdS, pairsA, frzA, closeQ_nil, closeQ_succ, diagQ_zero, diagQ_succ, mergeable, look_stripE, ofV, ofLeaf, sameK, retA, resK, tupA, subA, subQ, ptrsE, pairsO, frzO, subF, subG, pickOf, assocN, pairsE, pairsC, pairsL, pairs0, frzE, frzC, frzL, frz0, frzH, Pg.freeze, List.foldl_nil, subOs, subO, subEv, subV_succ, subM, subL, ldCells, objAt, ↓callT, callC, callV, normArgs, normA, resL, res8_eq, res_succ, resM, shiftR, shift1, AV.cells, TK.cells, AV.leaf, AV.leafy, putCells, Op.operands, Call.operands, Array.toList_append, List.getElem?_toArray, List.getElem?_cons_succ, List.getElem?_cons_zero, Option.bind_some, Option.getD_some, reduceCtorEq, Nat.reduceEqDiff, List.nil_append, List.append_nil, List.cons_append, List.length_cons, List.length_nil, List.map_cons, List.map_nil, List.set_cons_zero, Nat.zero_add, ite_true, ite_false, Option.some.injEq, Option.isSome_none, Bool.if_false_right, decide_eq_true_eq, decide_eq_false_iff_not, Int.not_le, Int.not_lt, List.all_cons, List.all_nil, Bool.and_self, and_self, exists_eq_left', List.toList_toArray, length_ofBytes, getD_ofBytes, set_ofBytes, cByte_dec, lOne_dec, lCons_dec, dec2_some, List.length_set, pureB_bytes, List.contains_nil, List.range'_zero, C1by_ns, C1by_pre, C1by_r, C1by_H, optP_some, optV_some, optH_some, Int.toNat_natCast, Nat.le_refl, Nat.zero_lt_succ, C1by_it, regH_none, isNext, nextF, nextG, selC_true, selC_false, pureC, ↓msel, muC, ↓callP, C1by_mu, tk5, dz5, tk32, kLess]
  refine ⟨fun h => ⟨h, by omega, by omega⟩, fun h => ⟨h, hm, by omega⟩, fun h => ⟨h, by omega, by omega⟩, fun h => ⟨h, hm, by omega⟩, fun h => ?_, fun h => ?_⟩
  · simp only [Bool.and_eq_true, decide_eq_true_eq] at h
    obtain ⟨k, rfl⟩ : ∃ k, j = k + 1 := ⟨j - 1, by omega⟩
    exact ⟨k, ⟨by omega, by omega, by rw [← hj3]; exact scanN_yes (by omega) h.2⟩, by omega, by decide, subX_eq rfl (pureB_bytes _), by rw [wrap64 (by omega) (by omega)]; omega⟩
  obtain rfl : j = J := by
    rw [← hj3, scanN_no]
    rintro ⟨h1, h2⟩
    have h2 : (!ltB (m.getD j 0) (m.getD a 0)) = true := h2
    rw [h2, Bool.and_true, decide_eq_false_iff_not] at h
    omega
  refine ⟨fun hc => ?_, fun hc => ?_⟩
  · rw [if_pos (by omega)] at hP
    repeat (first | refine And.intro ⟨by omega, by omega⟩ ?_ | refine And.intro (by omega) ?_)
    rw [hP]
    exact ⟨by decide, subX_eq rfl (pureB_bytes _), rfl, rfl⟩
  rw [if_neg (by omega)] at hP
  obtain ⟨k, rfl⟩ : ∃ k, j = k + 1 := ⟨j - 1, by omega⟩
  have w2 : IntKind.i64.wrap ((i : Int) + 1) = ((i + 1 : Nat) : Int) := by rw [wrap64 (by omega) (by omega)]; omega
  have w3 : IntKind.i64.wrap (((k + 1 : Nat) : Int) - 1) = (k : Int) := by rw [wrap64 (by omega) (by omega)]; omega
  rw [Nat.add_sub_cancel] at hP
  repeat (first | refine And.intro ⟨by omega, by omega⟩ ?_ | refine And.intro (by omega) ?_)
  refine loopH_intro (α := Nat × Nat × List UInt8) (fun x => ([(10, .int .i64 x.1), (11, .int .i64 x.2.1), (0, .own 0 1 l.length), (1, .int .i64 a)], [.arr 5 1 (ofBytes x.2.2)]))
    (fun x => x.2.2.length = l.length ∧ a + 1 ≤ x.1 ∧ x.1 ≤ b + 1 ∧ a ≤ x.2.1 ∧ x.2.1 ≤ b - 1 ∧ partL a x.1 x.2.1 x.2.2 = partL a (i + 1) k (swpL m i (k + 1))) (fun x => x.2.1 + 1 - x.1) (i + 1, k, swpL m i (k + 1)) ⟨by rw [swpL_len]; exact hm, by show a + 1 ≤ i + 1; omega, by show i + 1 ≤ b + 1; omega, by show a ≤ k; omega, by show k ≤ b - 1; omega, rfl⟩ ?_ ?_
  · simp (maxSteps := 4000000) only [Pg.look, true_and, and_true, alives, aliveO, nxtQ, hdS, pairsA, frzA, closeQ_nil, closeQ_succ, diagQ_zero, diagQ_succ, subA, subQ, ptrsE, pairsO, frzO, subF, subG, pickOf, assocN, pairsE, pairsC, pairs0, frzE, frzC, frz0, frzH, Pg.freeze, List.foldl_nil, subOs, subO, subEv, subV_succ, subM, List.getElem?_cons_zero, reduceCtorEq, Nat.reduceEqDiff, List.nil_append, List.append_nil, ite_true, ite_false, and_self, pureB_bytes, Nat.zero_lt_succ, w2, w3]
    exact ⟨by decide, subX_eq rfl (pureB_bytes _)⟩
  rintro ⟨i1, j1, q⟩ ⟨hq, g1, g2, g3, g4, g5⟩
  have hq : q.length = l.length := hq
  have g1 : a + 1 ≤ i1 := g1
  have g2 : i1 ≤ b + 1 := g2
  have g3 : a ≤ j1 := g3
  have g4 : j1 ≤ b - 1 := g4
  have g5 : partL a i1 j1 q = partL a (i + 1) k (swpL m i (k + 1)) := g5
  rw [← g5] at hP
  clear hI hI1 hI2 hJ hJ1 hJ2 hi1 hi2 hi3 hj1 hj2 hj3 hc w2 w3 h
  rw [partL_eq] at hP g5
  obtain ⟨I, hI⟩ : ∃ I, I = scanU (pU a q) q j1 i1 := ⟨_, rfl⟩
  have hI1 : i1 ≤ I := by rw [hI]; exact scanU_ge _ _ _ _
  rw [← hI] at hP g5
  obtain ⟨J, hJ⟩ : ∃ J, J = scanN (pD a q) q I j1 := ⟨_, rfl⟩
  have hJ1 : J ≤ j1 := by rw [hJ]; exact scanN_le _ _ _ _
  rw [← hJ] at hP g5
  simp (maxSteps := 4000000) only [↓wpA_H, ↓wpH_seq, ↓wpH_block, ↓wpH_loop]
  refine loopH_intro (α := Nat) (fun i => ([(10, .int .i64 i), (11, .int .i64 j1), (0, .own 0 1 l.length), (1, .int .i64 a)], [.arr 5 1 (ofBytes q)]))
    (fun i => i1 ≤ i ∧ i ≤ b + 1 ∧ scanU (pU a q) q j1 i = I) (fun i => b - i) i1 ⟨Nat.le_refl _, g2, hI.symm⟩ ?_ ?_
  · simp (maxSteps := 4000000) only [Pg.look, true_and, and_true, alives, aliveO, nxtQ, hdS, pairsA, frzA, closeQ_nil, closeQ_succ, diagQ_zero, diagQ_succ, subA, subQ, ptrsE, pairsO, frzO, subF, subG, pickOf, assocN, pairsE, pairsC, pairs0, frzE, frzC, frz0, frzH, Pg.freeze, List.foldl_nil, subOs, subO, subEv, subV_succ, subM, List.getElem?_cons_zero, reduceCtorEq, Nat.reduceEqDiff, List.nil_append, List.append_nil, ite_true, ite_false, and_self, pureB_bytes, Nat.zero_lt_succ]
    exact ⟨by decide, subX_eq rfl (pureB_bytes _)⟩
  rintro i2 ⟨hi1, hi2, hi3⟩
  have hi1 : i1 ≤ i2 := hi1
  have hi2 : i2 ≤ b + 1 := hi2
  have hi3 : scanU (pU a q) q j1 i2 = I := hi3
  simp (maxSteps := 4000000) only [↓wpA_H, ↓wpH_skip, ↓wpH_ret, ↓wpH_exit, ↓wpH_seq, ↓wpH_cond, ↓wpH_block, ↓wpH_loop, ↓wpH_region, iselH_if, bselH_false, runH_nil, runH_cons, gw, gselH_plain, gselH_if, kselH_1, cselH_bool, gkind, ↓chk, justK, noW, ↓oneK, ↓pureK, ↓heapK, ↓thenA_normal, ↓thenA_exit, ↓blockA_normal, ↓blockA_exit, ↓stepEv, opnd, Pg.look, binK, intOp, dstOf, Bool.false_eq_true, implies_true, imp_self, true_and, and_true, pickC, pickV, unc, gof, mux, mergeK, condsL, valV, heapV, footV, binV, intV, alives, aliveO, nxtQ, hdS, pairsA, frzA, closeQ_nil, closeQ_succ, diagQ_zero, diagQ_succ, mergeable, look_stripE, ofV, ofLeaf, sameK, retA, resK, tupA, subA, subQ, ptrsE, pairsO, frzO, subF, subG, pickOf, assocN, pairsE, pairsC, pairsL, pairs0, frzE, frzC, frzL, frz0, frzH, Pg.freeze, List.foldl_nil, subOs, subO, subEv, subV_succ, subM, subL, ldCells, objAt, ↓callT, callC, callV, normArgs, normA, resL, res8_eq, res_succ, resM, shiftR, shift1, AV.cells, TK.cells, AV.leaf, AV.leafy, putCells, Op.operands, Call.operands, Array.toList_append, List.getElem?_toArray, List.getElem?_cons_succ, List.getElem?_cons_zero, Option.bind_some, Option.getD_some, reduceCtorEq, Nat.reduceEqDiff, List.nil_append, List.append_nil, List.cons_append, List.length_cons, List.length_nil, List.map_cons, List.map_nil, List.set_cons_zero, Nat.zero_add, ite_true, ite_false, Option.some.injEq, Option.isSome_none, Bool.if_false_right, decide_eq_true_eq, decide_eq_false_iff_not, Int.not_le, List.all_cons, List.all_nil, Bool.and_self, and_self, exists_eq_left', List.toList_toArray, length_ofBytes, getD_ofBytes, set_ofBytes, cByte_dec, lOne_dec, lCons_dec, dec2_some, List.length_set, pureB_bytes, List.contains_nil, List.range'_zero, C1by_ns, C1by_pre, C1by_r, C1by_H, optP_some, optV_some, optH_some, Int.toNat_natCast, Nat.le_refl, Nat.zero_lt_succ, C1by_it, regH_none, isNext, nextF, nextG, selC_true, selC_false, pureC, ↓msel, muC, ↓callP, C1by_mu, tk5, dz5, tk32, kLess]
  refine ⟨fun h => ⟨h, by omega, by omega⟩, fun h => ⟨h, hq, by omega⟩, fun h => ⟨h, by omega, by omega⟩, fun h => ⟨h, hq, by omega⟩, fun h => ?_, fun h => ?_⟩
  · simp only [Bool.and_eq_true, decide_eq_true_eq] at h
    exact ⟨i2 + 1, ⟨by omega, by omega, by rw [← hi3]; exact scanU_yes (by omega) h.2⟩, by omega, by decide, subX_eq rfl (pureB_bytes _), by rw [wrap64 (by omega) (by omega)]; rfl⟩
  obtain rfl : i2 = I := by
    rw [← hi3, scanU_no]
    rintro ⟨h1, h2⟩
    have h2 : ltB (q.getD i2 0) (q.getD a 0) = true := h2
    rw [h2, Bool.and_true, decide_eq_false_iff_not] at h
    omega
  refine loopH_intro (α := Nat) (fun j => ([(10, .int .i64 i2), (11, .int .i64 j), (0, .own 0 1 l.length), (1, .int .i64 a)], [.arr 5 1 (ofBytes q)]))
    (fun j => a ≤ j ∧ j ≤ j1 ∧ scanN (pD a q) q i2 j = J) (fun j => j) j1 ⟨g3, Nat.le_refl _, hJ.symm⟩ ?_ ?_
  · simp (maxSteps := 4000000) only [Pg.look, true_and, and_true, alives, aliveO, nxtQ, hdS, pairsA, frzA, closeQ_nil, closeQ_succ, diagQ_zero, diagQ_succ, subA, subQ, ptrsE, pairsO, frzO, subF, subG, pickOf, assocN, pairsE, pairsC, pairs0, frzE, frzC, frz0, frzH, Pg.freeze, List.foldl_nil, subOs, subO, subEv, subV_succ, subM, List.getElem?_cons_zero, reduceCtorEq, Nat.reduceEqDiff, List.nil_append, List.append_nil, ite_true, ite_false, and_self, pureB_bytes, Nat.zero_lt_succ]
    exact ⟨by decide, subX_eq rfl (pureB_bytes _)⟩
  rintro j2 ⟨hj1, hj2, hj3⟩
  have hj1 : a ≤ j2 := hj1
  have hj2 : j2 ≤ j1 := hj2
  have hj3 : scanN (pD a q) q i2 j2 = J := hj3
  simp (maxSteps := 4000000) only [↓wpA_H, ↓wpH_skip, ↓wpH_ret, ↓wpH_exit, ↓wpH_seq, ↓wpH_cond, ↓wpH_block, ↓wpH_region, iselH_if, bselH_false, runH_nil, runH_cons, gw, gselH_plain, gselH_if, kselH_1, cselH_bool, gkind, ↓chk, justK, noW, ↓oneK, ↓pureK, ↓heapK, ↓thenA_normal, ↓thenA_exit, ↓blockA_normal, ↓blockA_exit, ↓stepEv, opnd, Pg.look, binK, intOp, dstOf, Bool.false_eq_true, implies_true, imp_self, true_and, and_true, pickC, pickV, unc, gof, mux, mergeK, condsL, valV, heapV, footV, binV, intV, alives, aliveO, nxtQ, hdS, pairsA, frzA, closeQ_nil, closeQ_succ, diagQ_zero, diagQ_succ, mergeable, look_stripE, ofV, ofLeaf, sameK, retA, resK, tupA, subA, subQ, ptrsE, pairsO, frzO, subF, subG, pickOf, assocN, pairsE, pairsC, pairsL, pairs0, frzE, frzC, frzL, frz0, frzH, Pg.freeze, List.foldl_nil, subOs, subO, subEv, subV_succ, subM, subL, ldCells, objAt, ↓callT, callC, callV, normArgs, normA, resL, res8_eq, res_succ, resM, shiftR, shift1, AV.cells, TK.cells, AV.leaf, AV.leafy, putCells, Op.operands, Call.operands, Array.toList_append, List.getElem?_toArray, List.getElem?_cons_succ, List.getElem?_cons_zero, Option.bind_some, Option.getD_some, reduceCtorEq, Nat.reduceEqDiff, List.nil_append, List.append_nil, List.cons_append, List.length_cons, List.length_nil, List.map_cons, List.map_nil, List.set_cons_zero, Nat.zero_add, ite_true, ite_false, Option.some.injEq, Option.isSome_none, Bool.if_false_right, decide_eq_true_eq, decide_eq_false_iff_not, Int.not_le, Int.not_lt, List.all_cons, List.all_nil, Bool.and_self, and_self, exists_eq_left', List.toList_toArray, length_ofBytes, getD_ofBytes, set_ofBytes, cByte_dec, lOne_dec, lCons_dec, dec2_some, List.length_set, pureB_bytes, List.contains_nil, List.range'_zero, C1by_ns, C1by_pre, C1by_r, C1by_H, optP_some, optV_some, optH_some, Int.toNat_natCast, Nat.le_refl, Nat.zero_lt_succ, C1by_it, regH_none, isNext, nextF, nextG, selC_true, selC_false, pureC, ↓msel, muC, ↓callP, C1by_mu, tk5, dz5, tk32, kLess]
  refine ⟨fun h => ⟨h, by omega, by omega⟩, fun h => ⟨h, hq, by omega⟩, fun h => ⟨h, by omega, by omega⟩, fun h => ⟨h, hq, by omega⟩, fun h => ?_, fun h => ?_⟩
  · simp only [Bool.and_eq_true, decide_eq_true_eq] at h
    obtain ⟨k, rfl⟩ : ∃ k, j2 = k + 1 := ⟨j2 - 1, by omega⟩
    exact ⟨k, ⟨by omega, by omega, by rw [← hj3]; exact scanN_yes (by omega) h.2⟩, by omega, by decide, subX_eq rfl (pureB_bytes _), by rw [wrap64 (by omega) (by omega)]; omega⟩
  obtain rfl : j2 = J := by
    rw [← hj3, scanN_no]
    rintro ⟨h1, h2⟩
    have h2 : (!ltB (q.getD j2 0) (q.getD a 0)) = true := h2
    rw [h2, Bool.and_true, decide_eq_false_iff_not] at h
    omega
  refine ⟨fun hc => ?_, fun hc => ?_⟩
  · rw [if_pos (by omega)] at hP
    repeat (first | refine And.intro ⟨by omega, by omega⟩ ?_ | refine And.intro (by omega) ?_)
    rw [hP]
    exact ⟨by decide, subX_eq rfl (pureB_bytes _), rfl, rfl⟩
  rw [if_neg (by omega)] at g5
  obtain ⟨k2, rfl⟩ : ∃ k, j2 = k + 1 := ⟨j2 - 1, by omega⟩
  rw [Nat.add_sub_cancel] at g5
  repeat (first | refine And.intro ⟨by omega, by omega⟩ ?_ | refine And.intro (by omega) ?_)
  exact ⟨(i2 + 1, k2, swpL q i2 (k2 + 1)), ⟨by rw [swpL_len]; exact hq, by show a + 1 ≤ i2 + 1; omega, by show i2 + 1 ≤ b + 1; omega, by show a ≤ k2; omega, by show k2 ≤ b - 1; omega, g5⟩, by show k2 + 1 - (i2 + 1) < j1 + 1 - i1; omega, by decide, subX_eq rfl (pureB_bytes _), by rw [wrap64 (by omega) (by omega)]; rfl, by rw [wrap64 (by omega) (by omega)]; show ((k2 + 1 : Nat) : Int) - 1 = (k2 : Int); omega⟩
abbrev hABP : HL (List UInt8 × Int × Int × Int × Unit) := hCons hBys (hCons (hP .id (cInt .i64)) (hCons (hP .id (cInt .i64)) (hCons (hP .id (cInt .i64)) hNil)))
abbrev preP (d : List UInt8 × Int × Int × Int × Unit) : Prop := 0 ≤ d.2.1 ∧ d.2.1 ≤ d.2.2.2.1 ∧ d.2.2.2.1 < d.2.2.1 ∧ d.2.2.1 ≤ d.1.length ∧ d.1.length ≤ 1000
def kPart : C1 := C1.mby hABP preP (fun d => .tuple [.int .i64 (part d.2.1.toNat d.2.2.1.toNat d.2.2.2.1.toNat d.1).1, .bool (part d.2.1.toNat d.2.2.1.toNat d.2.2.2.1.toNat d.1).2.1]) (fun d => [.arr 5 1 (ofBytes (part d.2.1.toNat d.2.2.1.toNat d.2.2.2.1.toNat d.1).2.2)])
theorem ok_part : C1OK Try.prog 77 kPart := C1OK.mby (by kernel_rfl) (fun d h => by
  obtain ⟨l, a, b, p, u⟩ := d
  obtain ⟨h1, h2, h3, h4, h5⟩ := h
  have h1 : 0 ≤ a := h1
  have h2 : a ≤ p := h2
  have h3 : p < b := h3
  have h4 : b ≤ l.length := h4
  have h5 : l.length ≤ 1000 := h5
  have := calls_part l a.toNat b.toNat p.toNat (by omega) (by omega) (by omega) h5
  rw [show ((a.toNat : Nat) : Int) = a by omega, show ((b.toNat : Nat) : Int) = b by omega, show ((p.toNat : Nat) : Int) = p by omega] at this
  exact this) (fun _ _ => Nat.le_refl _)
end Go.Pg
namespace Go.Pg
open Go Go.Proofs

set_option maxRecDepth 20000 in
set_option maxHeartbeats 4000000 in
theorem calls_parE (l : List UInt8) (a b pv : Nat) (hap : a ≤ pv) (hpb : pv < b) (hb : b ≤ l.length) (hl : l.length ≤ 1000) :
    CallsR Try.prog 76 [.own 0 1 l.length, .int .i64 a, .int .i64 b, .int .i64 pv] [.arr 5 1 (ofBytes l)]
      (.int .i64 (partE a b pv l).1) [.arr 5 1 (ofBytes (partE a b pv l).2)] := by
  refine callsR_of (mrg := true) (dyn := []) (CtrOK.cons ok_Less (CtrOK.nil _)) mixed Try.func76 rfl (by simp [Try.ntmps76]) (by kernel_rfl) ?_
  rw [show Try.f76.results.toList = [.tmp 8] from by kernel_rfl]
  have w0 : IntKind.i64.wrap ((a : Int) + 1) = ((a + 1 : Nat) : Int) := by rw [wrap64 (by omega) (by omega)]; omega
  have w1 : IntKind.i64.wrap ((b : Int) - 1) = ((b - 1 : Nat) : Int) := by rw [wrap64 (by omega) (by omega)]; omega
  have hsw : ∀ (q : List UInt8) (i j : Nat), (q.set i (q.getD j 0)).set j (q.getD i 0) = swpL q i j := fun _ _ _ => rfl
  simp (maxSteps := 4000000) only [↓wpA_H, ↓wpH_seq, ↓wpH_block, ↓wpH_loop, ↓wpH_region, bselH_false, runH_nil, runH_cons, gw, gselH_plain, ↓chk, justK, noW, ↓oneK, ↓pureK, ↓heapK, envOf, ↓thenA_normal, ↓stepEv, opnd, Pg.look, binK, intOp, Bool.false_eq_true, implies_true, true_and, and_true, valV, heapV, footV, binV, intV, Nat.reduceAdd, ofV, ofLeaf, ldCells, objAt, AV.cells, TK.cells, AV.leaf, AV.leafy, putCells, List.getElem?_cons_zero, Option.getD_some, reduceCtorEq, Nat.reduceEqDiff, Nat.reduceAdd, List.length_cons, List.length_nil, List.set_cons_zero, Nat.zero_add, ite_true, ite_false, Option.some.injEq, Option.isSome_none, List.all_cons, List.all_nil, Bool.and_self, and_self, exists_eq_left', length_ofBytes, getD_ofBytes, set_ofBytes, List.length_set, List.contains_nil, Int.toNat_natCast, Nat.le_refl, Nat.zero_lt_succ, regH_none, isNext, nextF, nextG, selC_true, selC_false, pureC, C1by_mu, tk5, dz5, tk32, kLess, w0, w1, hsw]
  repeat (first | refine And.intro ⟨by omega, by omega⟩ ?_ | refine And.intro (by omega) ?_)
  have hP : partE a b pv l = eqL a (a + 1) (b - 1) (swpL l a pv) := rfl
  refine loopH_intro (α := Nat × Nat × List UInt8) (fun x => ([(9, .int .i64 x.1), (10, .int .i64 x.2.1), (0, .own 0 1 l.length), (1, .int .i64 a)], [.arr 5 1 (ofBytes x.2.2)]))
    (fun x => x.2.2.length = l.length ∧ a + 1 ≤ x.1 ∧ x.1 ≤ b + 1 ∧ a ≤ x.2.1 ∧ x.2.1 ≤ b - 1 ∧ eqL a x.1 x.2.1 x.2.2 = eqL a (a + 1) (b - 1) (swpL l a pv)) (fun x => x.2.1 + 1 - x.1) (a + 1, b - 1, swpL l a pv) ⟨swpL_len _ _ _, by show a + 1 ≤ a + 1; omega, by show a + 1 ≤ b + 1; omega, by show a ≤ b - 1; omega, by show b - 1 ≤ b - 1; omega, rfl⟩ ?_ ?_
  · simp (maxSteps := 4000000) only [Pg.look, true_and, and_true, alives, aliveO, nxtQ, hdS, pairsA, frzA, closeQ_nil, closeQ_succ, diagQ_zero, diagQ_succ, subA, subQ, ptrsE, pairsO, frzO, subF, subG, pickOf, assocN, pairsE, pairsC, pairs0, frzE, frzC, frz0, frzH, Pg.freeze, List.foldl_nil, subOs, subO, subEv, subV_succ, subM, List.getElem?_cons_zero, reduceCtorEq, Nat.reduceEqDiff, List.nil_append, List.append_nil, ite_true, ite_false, and_self, pureB_bytes, Nat.zero_lt_succ]
    exact ⟨by decide, subX_eq rfl (pureB_bytes _)⟩
  rintro ⟨i1, j1, q⟩ ⟨hq, g1, g2, g3, g4, g5⟩
  have hq : q.length = l.length := hq
  have g1 : a + 1 ≤ i1 := g1
  have g2 : i1 ≤ b + 1 := g2
  have g3 : a ≤ j1 := g3
  have g4 : j1 ≤ b - 1 := g4
  have g5 : eqL a i1 j1 q = eqL a (a + 1) (b - 1) (swpL l a pv) := g5
  rw [← g5] at hP
  rw [eqL_eq] at hP g5
  obtain ⟨I, hI⟩ : ∃ I, I = scanU (qU a q) q j1 i1 := ⟨_, rfl⟩
  have hI1 : i1 ≤ I := by rw [hI]; exact scanU_ge _ _ _ _
  rw [← hI] at hP g5
  obtain ⟨J, hJ⟩ : ∃ J, J = scanN (qD a q) q I j1 := ⟨_, rfl⟩
  have hJ1 : J ≤ j1 := by rw [hJ]; exact scanN_le _ _ _ _
  rw [← hJ] at hP g5
  simp (maxSteps := 4000000) only [↓wpA_H, ↓wpH_seq, ↓wpH_block, ↓wpH_loop]
  refine loopH_intro (α := Nat) (fun i => ([(9, .int .i64 i), (10, .int .i64 j1), (0, .own 0 1 l.length), (1, .int .i64 a)], [.arr 5 1 (ofBytes q)]))
    (fun i => i1 ≤ i ∧ i ≤ b + 1 ∧ scanU (qU a q) q j1 i = I) (fun i => b - i) i1 ⟨Nat.le_refl _, g2, hI.symm⟩ ?_ ?_
  · simp (maxSteps := 4000000) only [Pg.look, true_and, and_true, alives, aliveO, nxtQ, hdS, pairsA, frzA, closeQ_nil, closeQ_succ, diagQ_zero, diagQ_succ, subA, subQ, ptrsE, pairsO, frzO, subF, subG, pickOf, assocN, pairsE, pairsC, pairs0, frzE, frzC, frz0, frzH, Pg.freeze, List.foldl_nil, subOs, subO, subEv, subV_succ, subM, List.getElem?_cons_zero, reduceCtorEq, Nat.reduceEqDiff, List.nil_append, List.append_nil, ite_true, ite_false, and_self, pureB_bytes, Nat.zero_lt_succ]
    exact ⟨by decide, subX_eq rfl (pureB_bytes _)⟩
  rintro i2 ⟨hi1, hi2, hi3⟩
  have hi1 : i1 ≤ i2 := hi1
  have hi2 : i2 ≤ b + 1 := hi2
  have hi3 : scanU (qU a q) q j1 i2 = I := hi3
  simp (maxSteps := 4000000) only [↓wpA_H, ↓wpH_skip, ↓wpH_ret, ↓wpH_exit, ↓wpH_seq, ↓wpH_cond, ↓wpH_block, ↓wpH_loop, ↓wpH_region, iselH_if, bselH_false, runH_nil, runH_cons, gw, gselH_plain, gselH_if, kselH_1, cselH_bool, gkind, ↓chk, justK, noW, ↓oneK, ↓pureK, ↓heapK, ↓thenA_normal, ↓thenA_exit, ↓blockA_normal, ↓blockA_exit, ↓stepEv, opnd, Pg.look, binK, intOp, dstOf, Bool.false_eq_true, implies_true, imp_self, true_and, and_true, pickC, pickV, unc, gof, mux, mergeK, condsL, valV, heapV, footV, binV, intV, alives, aliveO, nxtQ, hdS, pairsA, frzA, closeQ_nil, closeQ_succ, diagQ_zero, diagQ_succ, mergeable, look_stripE, ofV, ofLeaf, sameK, retA, resK, tupA, subA, subQ, ptrsE, pairsO, frzO, subF, subG, pickOf, assocN, pairsE, pairsC, pairs0, frzE, frzC, frz0, frzH, Pg.freeze, List.foldl_nil, subOs, subO, subEv, subV_succ, subM, ldCells, objAt, ↓callT, callC, callV, normArgs, normA, resL, res8_eq, res_succ, resM, shiftR, shift1, AV.cells, TK.cells, Op.operands, Call.operands, Array.toList_append, List.getElem?_toArray, List.getElem?_cons_succ, List.getElem?_cons_zero, Option.bind_some, Option.getD_some, reduceCtorEq, Nat.reduceEqDiff, List.nil_append, List.append_nil, List.cons_append, List.length_cons, List.length_nil, List.map_cons, List.map_nil, Nat.zero_add, ite_true, ite_false, Option.some.injEq, Option.isSome_none, Bool.if_false_right, decide_eq_true_eq, decide_eq_false_iff_not, Int.not_le, Bool.and_self, and_self, exists_eq_left', List.toList_toArray, length_ofBytes, getD_ofBytes, cByte_dec, lOne_dec, lCons_dec, dec2_some, pureB_bytes, List.contains_nil, List.range'_zero, C1by_ns, C1by_pre, C1by_r, C1by_H, optP_some, optV_some, optH_some, Int.toNat_natCast, Nat.zero_lt_succ, C1by_it, regH_none, isNext, nextF, nextG, selC_true, selC_false, pureC, ↓msel, muC, ↓callP, C1by_mu, tk5, dz5, tk32, kLess]
  refine ⟨fun h => ⟨h, by omega, by omega⟩, fun h => ⟨h, hq, by omega⟩, fun h => ⟨h, by omega, by omega⟩, fun h => ⟨h, hq, by omega⟩, fun h => ?_, fun h => ?_⟩
  · simp only [Bool.and_eq_true, decide_eq_true_eq] at h
    exact ⟨i2 + 1, ⟨by omega, by omega, by rw [← hi3]; exact scanU_yes (by omega) h.2⟩, by omega, by decide, subX_eq rfl (pureB_bytes _), by rw [wrap64 (by omega) (by omega)]; rfl⟩
  obtain rfl : i2 = I := by
    rw [← hi3, scanU_no]
    rintro ⟨h1, h2⟩
    have h2 : (!ltB (q.getD a 0) (q.getD i2 0)) = true := h2
    rw [h2, Bool.and_true, decide_eq_false_iff_not] at h
    omega
  refine loopH_intro (α := Nat) (fun j => ([(9, .int .i64 i2), (10, .int .i64 j), (0, .own 0 1 l.length), (1, .int .i64 a)], [.arr 5 1 (ofBytes q)]))
    (fun j => a ≤ j ∧ j ≤ j1 ∧ scanN (qD a q) q i2 j = J) (fun j => j) j1 ⟨g3, Nat.le_refl _, hJ.symm⟩ ?_ ?_
  · simp (maxSteps := 4000000) only [Pg.look, true_and, and_true, alives, aliveO, nxtQ, hdS, pairsA, frzA, closeQ_nil, closeQ_succ, diagQ_zero, diagQ_succ, subA, subQ, ptrsE, pairsO, frzO, subF, subG, pickOf, assocN, pairsE, pairsC, pairs0, frzE, frzC, frz0, frzH, Pg.freeze, List.foldl_nil, subOs, subO, subEv, subV_succ, subM, List.getElem?_cons_zero, reduceCtorEq, Nat.reduceEqDiff, List.nil_append, List.append_nil, ite_true, ite_false, and_self, pureB_bytes, Nat.zero_lt_succ]
    exact ⟨by decide, subX_eq rfl (pureB_bytes _)⟩
  rintro j2 ⟨hj1, hj2, hj3⟩
  have hj1 : a ≤ j2 := hj1
  have hj2 : j2 ≤ j1 := hj2
  have hj3 : scanN (qD a q) q i2 j2 = J := hj3
  simp (maxSteps := 4000000) only [↓wpA_H, ↓wpH_skip, ↓wpH_ret, ↓wpH_exit, ↓wpH_seq, ↓wpH_cond, ↓wpH_block, ↓wpH_region, iselH_if, bselH_false, runH_nil, runH_cons, gw, gselH_plain, gselH_if, kselH_1, cselH_bool, gkind, ↓chk, justK, noW, ↓oneK, ↓pureK, ↓heapK, ↓thenA_normal, ↓thenA_exit, ↓blockA_normal, ↓blockA_exit, ↓stepEv, opnd, Pg.look, binK, intOp, dstOf, Bool.false_eq_true, implies_true, imp_self, true_and, and_true, pickC, pickV, unc, gof, mux, mergeK, condsL, valV, heapV, footV, binV, intV, alives, aliveO, nxtQ, hdS, pairsA, frzA, closeQ_nil, closeQ_succ, diagQ_zero, diagQ_succ, mergeable, look_stripE, ofV, ofLeaf, sameK, retA, resK, tupA, subA, subQ, ptrsE, pairsO, frzO, subF, subG, pickOf, assocN, pairsE, pairsC, pairs0, frzE, frzC, frz0, frzH, Pg.freeze, List.foldl_nil, subOs, subO, subEv, subV_succ, subM, ldCells, objAt, ↓callT, callC, callV, normArgs, normA, resL, res8_eq, res_succ, resM, shiftR, shift1, AV.cells, TK.cells, AV.leaf, AV.leafy, putCells, Op.operands, Call.operands, Array.toList_append, List.getElem?_toArray, List.getElem?_cons_succ, List.getElem?_cons_zero, Option.bind_some, Option.getD_some, reduceCtorEq, Nat.reduceEqDiff, List.nil_append, List.append_nil, List.cons_append, List.length_cons, List.length_nil, List.map_cons, List.map_nil, List.set_cons_zero, Nat.zero_add, ite_true, ite_false, Option.some.injEq, Option.isSome_none, Bool.if_false_right, decide_eq_true_eq, decide_eq_false_iff_not, Int.not_le, Int.not_lt, List.all_cons, List.all_nil, Bool.and_self, and_self, exists_eq_left', List.toList_toArray, length_ofBytes, getD_ofBytes, set_ofBytes, cByte_dec, lOne_dec, lCons_dec, dec2_some, List.length_set, pureB_bytes, List.contains_nil, List.range'_zero, C1by_ns, C1by_pre, C1by_r, C1by_H, optP_some, optV_some, optH_some, Int.toNat_natCast, Nat.le_refl, Nat.zero_lt_succ, C1by_it, regH_none, isNext, nextF, nextG, selC_true, selC_false, pureC, ↓msel, muC, ↓callP, C1by_mu, tk5, dz5, tk32, kLess]
  refine ⟨fun h => ⟨h, by omega, by omega⟩, fun h => ⟨h, hq, by omega⟩, fun h => ⟨h, by omega, by omega⟩, fun h => ⟨h, hq, by omega⟩, fun h => ?_, fun h => ?_⟩
  · simp only [Bool.and_eq_true, decide_eq_true_eq] at h
    obtain ⟨k, rfl⟩ : ∃ k, j2 = k + 1 := ⟨j2 - 1, by omega⟩
    exact ⟨k, ⟨by omega, by omega, by rw [← hj3]; exact scanN_yes (by omega) h.2⟩, by omega, by decide, subX_eq rfl (pureB_bytes _), by rw [wrap64 (by omega) (by omega)]; omega⟩
  obtain rfl : j2 = J := by
    rw [← hj3, scanN_no]
    rintro ⟨h1, h2⟩
    have h2 : ltB (q.getD a 0) (q.getD j2 0) = true := h2
    rw [h2, Bool.and_true, decide_eq_false_iff_not] at h
    omega
  refine ⟨fun hc => ?_, fun hc => ?_⟩
  · rw [if_pos (by omega)] at hP
    repeat (first | refine And.intro ⟨by omega, by omega⟩ ?_ | refine And.intro (by omega) ?_)
    rw [hP]
    exact ⟨by decide, subX_eq rfl (pureB_bytes _), rfl⟩
  rw [if_neg (by omega)] at g5
  obtain ⟨k2, rfl⟩ : ∃ k, j2 = k + 1 := ⟨j2 - 1, by omega⟩
  rw [Nat.add_sub_cancel] at g5
  repeat (first | refine And.intro ⟨by omega, by omega⟩ ?_ | refine And.intro (by omega) ?_)
  exact ⟨(i2 + 1, k2, swpL q i2 (k2 + 1)), ⟨by rw [swpL_len]; exact hq, by show a + 1 ≤ i2 + 1; omega, by show i2 + 1 ≤ b + 1; omega, by show a ≤ k2; omega, by show k2 ≤ b - 1; omega, g5⟩, by show k2 + 1 - (i2 + 1) < j1 + 1 - i1; omega, by decide, subX_eq rfl (pureB_bytes _), by rw [wrap64 (by omega) (by omega)]; rfl, by rw [wrap64 (by omega) (by omega)]; show ((k2 + 1 : Nat) : Int) - 1 = (k2 : Int); omega⟩
def kParE : C1 := C1.mby hABP preP (fun d => .int .i64 (partE d.2.1.toNat d.2.2.1.toNat d.2.2.2.1.toNat d.1).1) (fun d => [.arr 5 1 (ofBytes (partE d.2.1.toNat d.2.2.1.toNat d.2.2.2.1.toNat d.1).2)])
theorem ok_parE : C1OK Try.prog 76 kParE := C1OK.mby (by kernel_rfl) (fun d h => by
  obtain ⟨l, a, b, p, u⟩ := d
  obtain ⟨h1, h2, h3, h4, h5⟩ := h
  have h1 : 0 ≤ a := h1
  have h2 : a ≤ p := h2
  have h3 : p < b := h3
  have h4 : b ≤ l.length := h4
  have h5 : l.length ≤ 1000 := h5
  have := calls_parE l a.toNat b.toNat p.toNat (by omega) (by omega) (by omega) h5
  rw [show ((a.toNat : Nat) : Int) = a by omega, show ((b.toNat : Nat) : Int) = b by omega, show ((p.toNat : Nat) : Int) = p by omega] at this
  exact this) (fun _ _ => Nat.le_refl _)
end Go.Pg
