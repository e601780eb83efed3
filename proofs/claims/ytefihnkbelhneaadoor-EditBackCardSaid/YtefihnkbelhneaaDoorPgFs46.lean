/- Lines are joined, by the document. -/
import Derived.Test.YtefihnkbelhneaaDoorPgFs44
import Derived.Test.YtefihnkbelhneaaDoorPgFs45
namespace Go.Pg
open Go Go.Proofs

theorem trimL_step (s : List UInt8) : (s = [] → trimL s = []) ∧ (s ≠ [] → (cls (s.getD 0 0).toNat true == 0) = true → trimL s = trimL (s.drop 1)) ∧ (s ≠ [] → (cls (s.getD 0 0).toNat true == 0) = false → trimL s = s) := by
  cases s with
  | nil => simp [trimL]
  | cons b s =>
    have hb : (cls (b.toNat : Int) true == 0) = blank b := by
      unfold cls blank
      have h1 : ((b.toNat : Int) == 32) = (b == 32) := by
        rw [Bool.eq_iff_iff, beq_iff_eq, beq_iff_eq]
        exact ⟨fun h => UInt8.toNat_inj.1 (by show _ = 32; omega), fun h => by subst h; rfl⟩
      have h2 : ((b.toNat : Int) == 9) = (b == 9) := by
        rw [Bool.eq_iff_iff, beq_iff_eq, beq_iff_eq]
        exact ⟨fun h => UInt8.toNat_inj.1 (by show _ = 9; omega), fun h => by subst h; rfl⟩
      rw [h1, h2]
      cases (b == 32 || b == 9) <;> simp
    refine ⟨by simp, fun _ h => ?_, fun _ h => ?_⟩
    · simp only [List.getD_cons_zero] at h
      rw [hb] at h
      simp [trimL, h]
    · simp only [List.getD_cons_zero] at h
      rw [hb] at h
      simp [trimL, h]

theorem spaced_nil (a : List UInt8) : spaced a [] = false := by simp [spaced]
theorem spaced_eq (a t : List UInt8) (ht : (t == []) = false) : (decide ((a == []) = false) && cls ((a.getD ((a.length : Int) - 1).toNat 0).toNat : Int) true != 0 && ((t.getD 0 0).toNat : Int) != 41) = spaced a t := by
  cases a with
  | nil => simp [spaced]
  | cons x a =>
    have h1 : (((x :: a).length : Int) - 1).toNat = (x :: a).length - 1 := by simp only [List.length_cons]; omega
    rw [h1]
    simp only [spaced, ht, Bool.not_false, Bool.and_true]
    have h2 : decide (((x :: a) == []) = false) = true := by simp
    have h3 : (!((x :: a) == [])) = true := by simp
    rw [h2, h3, Bool.true_and, Bool.true_and, Bool.and_comm]

set_option maxRecDepth 20000 in
set_option maxHeartbeats 4000000 in
theorem calls_RJoin (ls : Ls) (l n : Int) (hs : few ls) (hl1 : -9223372036854775808 ≤ l ∧ l ≤ 9223372036854775807) :
    CallsR Tryd.prog 20 [.sl 1 (ls.map .str), .int .i64 l, .int .i64 n] [] (.tuple [aCh (join ls l n).1, .int .i64 (join ls l n).2.1, .bool (join ls l n).2.2]) [] := by
  refine callsR_of (mrg := true) (dyn := []) (CtrOK.cons ok_ROf (CtrOK.cons ok_over (CtrOK.nil _))) mixed Tryd.func20 rfl (by simp [Tryd.ntmps20]) (by kernel_rfl) ?_
  rw [show Tryd.f20.results.toList = [.cell 6 31, .tmp 7, .tmp 8] from by kernel_rfl]
  have hl0 := hs.1
  by_cases hlr : 0 ≤ l ∧ l < ls.length
  case neg =>
    have e : (decide (l < 0) || decide (l ≥ (ls.length : Int))) = true := by simp only [Bool.or_eq_true, decide_eq_true_eq]; omega
    have e2 : (decide (n < 2) || decide (l < 0) || decide (l ≥ (ls.length : Int))) = true := by rw [Bool.or_assoc, e, Bool.or_true]
    simp (maxSteps := 4000000) only [↓wpA_H, ↓wpH_ret, ↓wpH_seq, ↓wpH_cond, ↓wpH_region, ↓iselH_true, bselH_false, runH_nil, runH_cons, gw, gselH_plain, gselH_if, kselH_1, cselH_bool, gkind, ↓chk, justK, noW, ↓oneK, ↓pureK, ↓heapK, envOf, ↓thenA_normal, ↓thenA_ret, ↓stepEv, opnd, Pg.look, binK, intOp, dstOf, Bool.not_true, Bool.false_eq_true, Bool.true_eq_false, implies_true, imp_self, true_and, and_true, pickC, pickV, unc, gof, mux, mergeK, condsL, valV, heapV, footV, binV, intV, mergeable, look_stripE, ofV, ofLeaf, sameK, retA, resK, tupA, subA, subQ, ptrsE, frzO, subF, subG, pickOf, frzE, frzC, frzL, frz0, frzH, Pg.freeze, List.foldl_nil, subOs, subEv, subV_succ, subM, subL, slen, ldCells, objAt, res_succ, resM, AV.cells, TK.cells, AV.definite, AV.leaf, AV.leafy, putCells, lay, buildL, Op.operands, Call.operands, Array.toList_append, List.getElem?_toArray, List.getElem?_cons_succ, List.getElem?_cons_zero, Option.bind_some, Option.getD_some, reduceCtorEq, Nat.reduceEqDiff, Nat.reduceAdd, List.nil_append, List.append_nil, List.length_cons, List.length_nil, List.map_nil, List.set_cons_zero, Nat.zero_add, ite_true, ite_false, Option.some.injEq, Option.isSome_some, AV.int.injEq, AV.agg.injEq, Bool.if_true_left, Bool.decide_eq_true, decide_eq_true_eq, decide_eq_false_iff_not, Int.not_lt, List.all_cons, List.all_nil, Bool.and_self, and_self, Bool.not_eq_true', exists_eq_left', pickOK_nil, List.length_map, List.toList_toArray, List.contains_nil, Bool.true_or, List.getD_cons_zero, cutL, List.drop_zero, List.drop_succ_cons, List.take_succ_cons, List.take_zero, Nat.sub_zero, Nat.le_refl, List.drop_nil, List.take_nil, Nat.zero_lt_succ, tk22, tk31, tz31, dz31, kOf, kROv, aCh, join, e2]
  have w1 : IntKind.i64.wrap ((ls.length : Int) - l) = ls.length - l := wrap64 (by omega) (by omega)
  cases hc : (decide (n < 2) || decide (l < 0) || decide (l ≥ (ls.length : Int)) || decide (n > (ls.length : Int) - l)) with
  | true =>
    simp (maxSteps := 4000000) only [↓wpA_H, ↓wpH_ret, ↓wpH_seq, ↓wpH_cond, ↓wpH_region, ↓iselH_true, bselH_false, runH_nil, runH_cons, gw, gselH_plain, gselH_if, kselH_1, cselH_bool, gkind, ↓chk, justK, noW, ↓oneK, ↓pureK, ↓heapK, envOf, ↓thenA_normal, ↓thenA_ret, ↓stepEv, opnd, Pg.look, binK, intOp, dstOf, Bool.false_eq_true, implies_true, imp_self, true_and, and_true, pickC, pickV, unc, gof, mux, mergeK, condsL, valV, heapV, footV, binV, intV, mergeable, look_stripE, ofV, ofLeaf, sameK, retA, resK, tupA, subA, subQ, ptrsE, frzO, subF, subG, pickOf, frzE, frzC, frzL, frz0, frzH, Pg.freeze, List.foldl_nil, subOs, subEv, subV_succ, subM, subL, slen, ldCells, objAt, res_succ, resM, AV.cells, TK.cells, AV.definite, AV.leaf, AV.leafy, putCells, lay, buildL, Op.operands, Call.operands, Array.toList_append, List.getElem?_toArray, List.getElem?_cons_succ, List.getElem?_cons_zero, Option.bind_some, Option.getD_some, reduceCtorEq, Nat.reduceEqDiff, Nat.reduceAdd, List.nil_append, List.append_nil, List.length_cons, List.length_nil, List.map_nil, List.set_cons_zero, Nat.zero_add, ite_true, ite_false, Option.some.injEq, Option.isSome_some, AV.int.injEq, AV.agg.injEq, Bool.if_true_left, Bool.decide_eq_true, decide_eq_true_eq, decide_eq_false_iff_not, Int.not_lt, List.all_cons, List.all_nil, Bool.and_self, and_self, Bool.not_eq_true', exists_eq_left', pickOK_nil, List.length_map, List.toList_toArray, List.contains_nil, List.getD_cons_zero, cutL, List.drop_zero, List.drop_succ_cons, List.take_succ_cons, List.take_zero, Nat.sub_zero, Nat.le_refl, List.drop_nil, List.take_nil, Nat.zero_lt_succ, tk22, tk31, tz31, dz31, kOf, kROv, aCh, join, hc, w1]
  | false =>
    have hc2 := hc
    simp only [Bool.or_eq_false_iff, decide_eq_false_iff_not] at hc2
    obtain ⟨⟨⟨c1, c2⟩, c3⟩, c4⟩ := hc2
    have w2 : IntKind.i64.wrap (l + 1) = l + 1 := wrap64 (by omega) (by omega)
    have w3 : IntKind.i64.wrap (l + n) = l + n := wrap64 (by omega) (by omega)
    have w6 : IntKind.i64.wrap (l + n - 1) = l + n - 1 := wrap64 (by omega) (by omega)
    simp (maxSteps := 4000000) only [↓wpA_H, ↓wpH_skip, ↓wpH_seq, ↓wpH_cond, ↓wpH_block, ↓wpH_loop, ↓wpH_region, ↓iselH_false, bselH_false, runH_nil, runH_cons, gw, gselH_plain, gselH_if, kselH_1, cselH_bool, gkind, ↓chk, justK, noW, ↓oneK, ↓pureK, ↓heapK, envOf, ↓thenA_normal, ↓stepEv, opnd, Pg.look, binK, intOp, dstOf, Bool.false_eq_true, implies_true, imp_self, true_and, and_true, pickC, pickV, unc, gof, mux, mergeK, condsL, valV, heapV, footV, binV, intV, mergeable, look_stripE, ofV, ofLeaf, sameK, slen, ldCells, AV.cells, TK.cells, AV.definite, Op.operands, Call.operands, Array.toList_append, List.getElem?_toArray, List.getElem?_cons_succ, List.getElem?_cons_zero, Option.bind_some, Option.getD_some, reduceCtorEq, Nat.reduceEqDiff, Nat.reduceAdd, List.nil_append, List.length_cons, List.length_nil, Nat.zero_add, ite_true, ite_false, Option.some.injEq, AV.int.injEq, Bool.if_true_left, Bool.decide_eq_true, decide_eq_true_eq, decide_eq_false_iff_not, Int.not_lt, Bool.and_self, and_self, Bool.not_eq_true', exists_eq_left', List.length_map, List.toList_toArray, List.contains_nil, getD_str, cutL, tk9, dz9, tk22, tz31, kOf, kROv, aCh, hc, w1]
    refine ⟨by omega, ?_⟩
    have hcb : ∀ i, ((cutL ls (l + 1).toNat (l + n).toNat).getD i []).length ≤ 1048576 := fun i => by
      rw [cutL, List.getD_eq_getElem?_getD, List.getElem?_take]
      split
      · rw [List.getElem?_drop, ← List.getD_eq_getElem?_getD]; exact hs.2 _
      · simp
    have hcl : (cutL ls (l + 1).toNat (l + n).toNat).length = (n - 1).toNat := by
      rw [cutL, List.length_take, List.length_drop]; omega
    have hcg : ∀ k : Nat, k < (n - 1).toNat → (cutL ls (l + 1).toNat (l + n).toNat).getD k [] = ls.getD (l + (k + 1 : Nat)).toNat [] := fun k hk => by
      rw [cutL, List.getD_eq_getElem?_getD, List.getElem?_take_of_lt (by omega), List.getElem?_drop, ← List.getD_eq_getElem?_getD]
      congr 1; omega
    have ej : join ls l n = _ := if_neg (by rw [hc]; decide)
    rw [ej]
    have hs0 := hs.2 l.toNat
    generalize ls.getD l.toNat [] = s0 at hs0 ⊢
    generalize hcd : cutL ls (l + 1).toNat (l + n).toNat = cd at hcb hcl hcg ⊢
    have hj : cd.foldl joinStep (s0, 0) = joinK s0 cd cd.length := by rw [joinK, List.take_length]
    refine loopH_intro (α := Nat) (fun k => ([(0, .sl 1 (ls.map .str)), (1, .int .i64 l), (2, .int .i64 n), (6, .ptr 0 3 1 0 0), (9, .str (joinK s0 cd k).1), (10, .int .i64 (joinK s0 cd k).2), (11, .int .i64 (k + 1 : Nat))], [.arr 31 3 [.agg [.int .i64 0, .nls, .nls]]])) (fun k => k ≤ cd.length) (fun k => cd.length - k) 0 (by omega) ?_ ?_
    · simp (maxSteps := 4000000) only [Pg.look, true_and, and_true, subA, subQ, ptrsE, pairsO, frzO, subF, subG, pickOf, assocN, pairsE, pairsC, pairsL, pairs0, frzE, frzC, frzL, frz0, frzH, Pg.freeze, List.foldl_nil, subOs, subO, subEv, subV_succ, subM, List.getElem?_cons_zero, reduceCtorEq, Nat.reduceEqDiff, List.nil_append, List.append_nil, Nat.zero_add, ite_true, ite_false, and_self, pickOK_one, Int.cast_ofNat_Int, Nat.lt_irrefl]
      exact ⟨subX_eq rfl rfl, rfl, rfl⟩
    intro k hk
    have hkl := joinK_len s0 cd 1048576 hcb k hk
    have hk2 : k * (1048576 + 1) ≤ 1048576 * 1048577 := Nat.mul_le_mul (by omega) (by omega)
    by_cases hlt : k < cd.length
    · have hct : decide (((k + 1 : Nat) : Int) < n) = true := decide_eq_true (by omega)
      have hnx := joinK_succ s0 cd k hlt
      have htl := trimL_len (cd.getD k [])
      have hcb2 := hcb k
      have w4 : IntKind.i64.wrap (l + ((k + 1 : Nat) : Int)) = l + (k + 1 : Nat) := wrap64 (by omega) (by omega)
      have w5 : IntKind.i64.wrap (((k + 1 : Nat) : Int) + 1) = ((k + 1 + 1 : Nat) : Int) := by rw [wrap64 (by omega) (by omega)]; rfl
      have hg := hcg k (by omega)
      generalize hsk : cd.getD k [] = sk at hnx htl hcb2 hg
      generalize hx : joinK s0 cd k = x at hnx hkl
      obtain ⟨a, c0⟩ := x
      simp only [joinStep] at hnx
      simp only at hkl
      have w7 : IntKind.i64.wrap ((a.length : Int) - 1) = a.length - 1 := wrap64 (by omega) (by omega)
      simp (maxSteps := 4000000) only [↓wpA_H, ↓wpH_skip, ↓wpH_seq, ↓wpH_cond, ↓wpH_block, ↓wpH_loop, ↓wpH_region, ↓iselH_true, bselH_false, runH_nil, runH_cons, gw, gselH_plain, cselH_bool, ↓chk, justK, noW, ↓oneK, ↓pureK, ↓heapK, ↓thenA_normal, ↓stepEv, opnd, Pg.look, binK, intOp, Bool.false_eq_true, implies_true, true_and, and_true, valV, heapV, footV, binV, intV, ldCells, AV.cells, TK.cells, List.getElem?_cons_zero, Option.getD_some, reduceCtorEq, Nat.reduceEqDiff, ite_true, ite_false, Option.some.injEq, and_self, exists_eq_left', List.length_map, List.contains_nil, getD_str, cutL, tk9, dz9, tk22, kOf, kROv, aCh, hct, w4, ← hg]
      refine ⟨by omega, ?_⟩
      refine loopH_intro (α := List UInt8) (fun t => ([(0, .sl 1 (ls.map .str)), (1, .int .i64 l), (2, .int .i64 n), (6, .ptr 0 3 1 0 0), (9, .str a), (10, .int .i64 c0), (11, .int .i64 (k + 1 : Nat)), (12, .str t)], [.arr 31 3 [.agg [.int .i64 0, .nls, .nls]]])) (fun t => t.length ≤ sk.length ∧ trimL t = trimL sk) (fun t => t.length) sk ⟨Nat.le_refl _, rfl⟩ ?_ ?_
      · simp (maxSteps := 4000000) only [Pg.look, true_and, and_true, subA, subQ, ptrsE, pairsO, frzO, subF, subG, pickOf, assocN, pairsE, pairsC, pairsL, pairs0, frzE, frzC, frzL, frz0, frzH, Pg.freeze, List.foldl_nil, subOs, subO, subEv, subV_succ, subM, List.getElem?_cons_zero, reduceCtorEq, Nat.reduceEqDiff, List.nil_append, List.append_nil, ite_true, ite_false, and_self, pickOK_one, Nat.lt_irrefl]
        exact subX_eq rfl rfl
      intro t ht
      obtain ⟨ht0, ht1⟩ := ht
      obtain ⟨u1, u2, u3⟩ := trimL_step t
      simp (maxSteps := 4000000) only [↓wpA_H, ↓wpH_skip, ↓wpH_ret, ↓wpH_exit, ↓wpH_seq, ↓wpH_cond, ↓wpH_block, ↓wpH_region, iselH_if, bselH_false, runH_nil, runH_cons, gw, gselH_plain, gselH_if, kselH_1, cselH_bool, gkind, ↓chk, justK, noW, ↓oneK, ↓pureK, ↓heapK, ↓thenA_normal, ↓thenA_exit, ↓blockA_normal, ↓blockA_exit, ↓stepEv, opnd, Pg.look, binK, intOp, strOp, dstOf, Bool.false_eq_true, false_implies, implies_true, imp_self, true_and, and_true, pickC, pickV, unc, gof, mux, mergeK, condsL, valV, heapV, footV, binV, intV, strV, cutV, mergeable, look_stripE, ofV, ofLeaf, sameK, retA, resK, tupA, subA, subQ, ptrsE, pairsO, frzO, subF, subG, pickOf, assocN, pairsE, pairsC, pairsL, pairs0, frzE, frzC, frzL, frz0, frzH, Pg.freeze, List.foldl_nil, List.foldl_cons, subOs, subO, subEv, subV_succ, subM, subL, ldCells, objAt, sliceS, ↓callT, callC, callV, callH, normArgs, normA, normC, resL, res8_eq, res_succ, resM, shiftR, shift1, AV.cells, TK.cells, AV.definite, AV.leaf, AV.leafy, AV.pureLeaf, AV.pureB, putCells, lay, foldInts, frzAt, Op.operands, Call.operands, Array.toList_append, List.getElem?_toArray, List.getElem?_cons_succ, List.getElem?_cons_zero, Option.bind_some, Option.map_some, Option.map_none, Option.getD_some, reduceCtorEq, Nat.reduceEqDiff, Nat.reduceAdd, List.nil_append, List.append_nil, List.cons_append, List.length_cons, List.length_nil, List.map_cons, List.map_nil, List.set_cons_zero, List.set_cons_succ, Nat.zero_add, Int.reduceToNat, ite_true, ite_false, Option.some.injEq, Option.isSome_some, AV.int.injEq, Prod.mk.injEq, Bool.if_false_right, Bool.decide_eq_true, List.all_cons, List.all_nil, Bool.and_self, and_self, Bool.not_eq_true', exists_eq_left', pickOK_nil, pickOK_one, cInt_dec, cBool_dec, List.toList_toArray, List.length_append, rg1, Int.reduceLE, cStr_dec, cSl_dec, lOne_dec, lCons_dec, dec2_some, List.contains_nil, beq_self_eq_true, decL_nil, decL_cons, consO_some, List.range'_zero, Nat.reducePow, decL_str, C1by_ns, C1by_pre, C1by_r, C1by_H, optP_some, optV_some, optH_some, List.getD_cons_zero, cutL, List.drop_zero, List.drop_succ_cons, List.take_succ_cons, List.take_zero, Nat.sub_zero, Nat.reduceLeDiff, Nat.le_refl, Nat.lt_irrefl, Nat.mul_one, List.drop_nil, List.take_nil, Nat.zero_lt_succ, tk9, eb9, tk22, tk31, tz31, dz31, kOf, kROv, aCh, w5, w7]
      have hdone : (decide ((t == []) = false) && cls ((t.getD 0 0).toNat : Int) true == 0) = false → t = trimL sk := fun h => by
        cases ht : (t == []) with
        | true =>
          have e := eq_of_beq ht
          rw [← ht1, u1 e, e]
        | false =>
          have hne : t ≠ [] := fun e => by subst e; simp at ht
          rw [← ht1]
          refine (u3 hne ?_).symm
          rw [ht] at h
          simpa using h
      refine ⟨fun h => ⟨h, ?_⟩, fun h => ?_, fun h => ?_⟩
      · cases t with
        | nil => simp at h
        | cons => simp
      · simp only [Bool.and_eq_true, decide_eq_true_eq] at h
        obtain ⟨h1, h2⟩ := h
        have hne : t ≠ [] := fun e => by subst e; simp at h1
        have hpos : 0 < t.length := List.length_pos_iff.2 hne
        exact ⟨by omega, t.drop 1, ⟨by rw [List.length_drop]; omega, by rw [← u2 hne h2, ht1]⟩, by rw [List.length_drop]; omega, subX_eq rfl rfl, rfl⟩
      · have hd := hdone h
        subst hd
        refine ⟨fun h2 => ?_, fun h2 => ?_⟩
        · have e := eq_of_beq h2
          rw [e] at hnx ⊢
          simp only [spaced_nil, Bool.false_eq_true, if_false] at hnx
          rw [if_pos (by rfl)] at hnx
          exact ⟨by simp; omega, k + 1, by omega, by omega, subX_eq rfl rfl, by rw [hnx], by rw [hnx], rfl⟩
        · rw [spaced_eq a _ h2]
          refine ⟨fun h3 => ⟨h3, ?_⟩, fun h3 => ⟨h3, ?_⟩, fun h3 => ?_, fun h3 => ?_⟩
          · cases a with
            | nil => simp at h3
            | cons => simp only [List.length_cons]; omega
          · cases hk0 : trimL sk with
            | nil => rw [hk0] at h2; simp at h2
            | cons => simp
          · simp only [h3, if_true] at hnx
            exact ⟨by omega, by omega, k + 1, by omega, by omega, subX_eq rfl rfl, by rw [hnx], by rw [hnx], rfl⟩
          · simp only [h3, h2, Bool.false_eq_true, if_false] at hnx
            exact ⟨by omega, k + 1, by omega, by omega, subX_eq rfl rfl, by rw [hnx], by rw [hnx], rfl⟩
    · have hcf : decide (((k + 1 : Nat) : Int) < n) = false := decide_eq_false (by omega)
      have hke : cd.length = k := by omega
      simp (maxSteps := 4000000) only [↓wpA_H, ↓wpH_ret, ↓wpH_exit, ↓wpH_seq, ↓wpH_cond, ↓wpH_region, ↓iselH_false, bselH_false, runH_nil, runH_cons, gw, gselH_plain, cselH_bool, ↓chk, justK, noW, ↓oneK, ↓pureK, ↓heapK, ↓thenA_normal, ↓thenA_exit, ↓blockA_exit, ↓stepEv, opnd, Pg.look, binK, intOp, Bool.false_eq_true, false_implies, implies_true, true_and, and_true, valV, heapV, footV, binV, intV, ofV, ofLeaf, retA, resK, tupA, subA, subQ, ptrsE, frzO, subF, subG, pickOf, frzE, frzC, frzL, frz0, frzH, Pg.freeze, List.foldl_nil, List.foldl_cons, subOs, subEv, subV_succ, subM, subL, ldCells, objAt, ↓callT, callC, callV, callH, normArgs, normA, normC, resL, res8_eq, res_succ, resM, shiftR, shift1, AV.cells, TK.cells, AV.definite, AV.leaf, AV.leafy, AV.pureLeaf, AV.pureB, putCells, lay, frzAt, List.getElem?_cons_succ, List.getElem?_cons_zero, Option.getD_some, reduceCtorEq, Nat.reduceEqDiff, Nat.reduceAdd, List.nil_append, List.append_nil, List.cons_append, List.length_cons, List.length_nil, List.map_cons, List.map_nil, List.set_cons_zero, List.set_cons_succ, Nat.zero_add, ite_true, ite_false, Option.some.injEq, Option.isSome_some, Prod.mk.injEq, List.all_cons, List.all_nil, Bool.and_self, and_self, exists_eq_left', pickOK_nil, cInt_dec, rg1, cStr_dec, cSl_dec, lOne_dec, lCons_dec, dec2_some, List.contains_nil, beq_self_eq_true, decL_nil, decL_cons, consO_some, List.range'_zero, Nat.reducePow, decL_str, C1by_ns, C1by_pre, C1by_r, C1by_H, optP_some, optV_some, optH_some, List.getD_cons_zero, cutL, List.drop_zero, List.drop_succ_cons, List.take_succ_cons, List.take_zero, Nat.sub_zero, Nat.reduceLeDiff, Nat.le_refl, Nat.mul_one, List.drop_nil, List.take_nil, Nat.zero_lt_succ, eb9, tk22, tk31, tz31, dz31, kOf, kROv, aCh, hcf, w3, w6, hj]
      rw [hke, show l + n - 1 + 1 = l + n by omega]
      exact ⟨by omega, ⟨rfl, rfl⟩, rfl⟩
theorem ok_RJoin : C1OK Tryd.prog 20 kJoin := C1OK.by (by kernel_rfl) (fun d h => calls_RJoin d.1 d.2.1 d.2.2 h.1 h.2) (fun _ => rfl) (fun _ => rfl)
end Go.Pg
