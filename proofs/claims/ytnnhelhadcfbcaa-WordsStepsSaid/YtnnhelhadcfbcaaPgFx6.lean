/- Any motion by words leads where the document says. Where a big word begins a small one does. An operator by words never takes a line's break with it at its end. Words begin and end just where the document says. A motion by n words is n motions by one: plain. A motion by n words is n motions by one. -/
import Derived.Test.YtnnhelhadcfbcaaPgFx5
namespace Go.Pg
open Go Go.Proofs

theorem getD_ints8 (k : IntKind) (l : List Int) (i : Nat) : (l.map (AV.int k)).getD i (.int k 0) = .int k (l.getD i 0) := getD_map (AV.int k) l i 0
theorem pureB_ints8 (k : IntKind) (l : List Int) : (l.map (AV.int k)).all AV.pureB = true := by simp [AV.pureB, AV.cells, AV.pureLeaf]
theorem fits8 {ls : Ls} (h : text ls = true) : fits 65536 65536 ls := by
  obtain ⟨h0, h1, h2⟩ := few_of_text h
  refine ⟨by omega, fun s hs => ?_⟩
  obtain ⟨i, hi, rfl⟩ := List.getElem_of_mem hs
  have := h2 i
  rw [List.getD_eq_getElem?_getD, List.getElem?_eq_getElem hi] at this
  have h3 : ls[i].length ≤ 1200 := this
  omega
theorem eq_self_bool (b : Bool) : (b == b) = true := by cases b <;> rfl

set_option maxRecDepth 40000 in
set_option maxHeartbeats 8000000 in
theorem calls_WordsMove (ls : Ls) (r1 r2 : Int) (a b : Int) (n : Int) (big flag : Bool) (hs : ∀ i, (ls.getD i []).length ≤ 140737488355328)
    (ha : 0 ≤ a ∧ a < 65536) (hb : 0 ≤ b ∧ b < 65536) (hn : -9223372036854775808 ≤ n ∧ n < 9223372036854775808) :
    CallsR Try.prog 7 [.sl 1 (ls.map .str), .agg [.int .i64 r1, .int .i64 r2], .int .u16 a, .int .u16 b, .int .i64 n, .bool big, .bool flag] [] (.bool true) [] := by
  refine callsR_of (mrg := true) (dyn := []) (CtrOK.cons ok_known8 (CtrOK.cons ok_Text (CtrOK.cons ok_SPlace (CtrOK.cons ok_Next (CtrOK.cons ok_RNext (CtrOK.cons ok_WBack (CtrOK.cons ok_RBack (CtrOK.cons ok_Tail (CtrOK.cons ok_RTail (CtrOK.cons ok_WBackTail (CtrOK.cons ok_RBackTail (CtrOK.cons ok_same8 (CtrOK.nil _))))))))))))) mixed Try.func7 rfl (by simp [Try.ntmps7]) (by kernel_rfl) ?_
  rw [show Try.f7.results.toList = [.tmp 14] from by kernel_rfl]
  cases ht : text ls with
  | false =>
    simp (maxSteps := 4000000) only [↓wpA_H, ↓wpH_skip, ↓wpH_ret, ↓wpH_seq, ↓wpH_cond, ↓wpH_region, ↓iselH_true, ↓iselH_false, bselH_false, runH_nil, runH_cons, gw, gselH_plain, cselH_bool, ↓chk, justK, noW, ↓oneK, ↓pureK, ↓heapK, envOf, ↓thenA_normal, ↓thenA_ret, ↓stepEv, opnd, Pg.look, Bool.not_false, Bool.not_true, Bool.false_eq_true, false_implies, implies_true, imp_self, true_and, and_true, valV, heapV, footV, ofV, ofLeaf, retA, resK, tupA, subA, subQ, ptrsE, frzO, subF, subG, pickOf, frzE, frzC, frz0, frzH, Pg.freeze, List.foldl_nil, subOs, subEv, subV_succ, subM, ↓callT, callC, callV, callH, normArgs, normA, normC, resL, res8_eq, res_succ, resM, shiftR, shift1, AV.cells, AV.definite, reduceCtorEq, Nat.reduceEqDiff, Nat.reduceAdd, List.nil_append, List.append_nil, List.cons_append, List.length_cons, List.length_nil, List.map_cons, List.map_nil, Nat.zero_add, ite_true, ite_false, Prod.mk.injEq, and_self, pickOK_nil, cSl_dec, lNil_dec, lOne_dec, List.contains_nil, List.range'_zero, decL_str, C1by_ns, C1by_pre, C1by_r, C1by_H, optP_some, optV_some, optH_some, C1by_it, kKnown8, kText, ht]
    exact hs
  | true =>
    have hft := fits8 ht
    obtain ⟨hl0, hl1, hl2⟩ := few_of_text ht
    have hsm : small ls := fits_small hft (by omega) (by omega)
    cases hpp : splace ls a b with | mk p1 p2
    simp (maxSteps := 4000000) only [↓wpA_H, ↓wpH_skip, ↓wpH_seq, ↓wpH_cond, ↓wpH_block, ↓wpH_loop, ↓wpH_region, ↓iselH_false, bselH_false, runH_nil, runH_cons, gw, gselH_plain, cselH_bool, ↓chk, justK, noW, ↓oneK, ↓pureK, ↓heapK, envOf, ↓thenA_normal, ↓stepEv, opnd, Pg.look, Bool.not_true, Bool.false_eq_true, false_implies, implies_true, imp_self, true_and, and_true, valV, heapV, footV, ofV, ofLeaf, Pg.freeze, List.foldl_nil, slen, ldCells, objAt, ↓callT, callC, callV, callH, normArgs, normA, normC, resL, res8_eq, res_succ, resM, shiftR, shift1, AV.cells, TK.cells, AV.definite, List.getElem?_cons_zero, Option.getD_some, reduceCtorEq, Nat.reduceEqDiff, Nat.reduceAdd, Nat.reduceMul, List.nil_append, List.append_nil, List.cons_append, List.length_cons, List.length_nil, List.map_cons, List.map_nil, Nat.zero_add, ite_true, ite_false, Option.some.injEq, Option.isSome_some, AV.int.injEq, Prod.mk.injEq, List.all_cons, List.all_nil, Bool.and_self, and_self, exists_eq_left', cInt_dec, rg2, cSl_dec, lNil_dec, lOne_dec, lCons_dec, dec2_some, List.contains_nil, beq_self_eq_true, Int.cast_ofNat_Int, List.range'_zero, Nat.reducePow, decL_str, C1by_ns, C1by_pre, C1by_r, C1by_H, optP_some, optV_some, optH_some, List.getD_cons_zero, cutL, List.drop_zero, List.take_succ_cons, Nat.sub_zero, Nat.reduceLeDiff, Nat.le_refl, List.take_nil, Nat.zero_lt_succ, C1by_it, tk25, tk36, dz36, eb36, kKnown8, kText, kSPlace, aPos, ht, hpp]
    obtain ⟨L1, e1⟩ : ∃ L : List (Int × Int), L = [(r1, r2), (p1, p2)] := ⟨_, rfl⟩
    obtain ⟨L2, e2⟩ : ∃ L : List Int, L = [n, n.tmod 9, 1] := ⟨_, rfl⟩
    have n1 : L1.length = 2 := by rw [e1]; rfl
    have n2 : L2.length = 3 := by rw [e2]; rfl
    have hL2 : ∀ j, L2.getD j 0 ≤ 9223372036854775807 := by
      intro j
      have := Int.tmod_lt_of_pos n (show (0 : Int) < 9 by omega)
      rw [e2]
      rcases j with _ | _ | _ | j
      · show n ≤ _; omega
      · show n.tmod 9 ≤ _; omega
      · show (1 : Int) ≤ _; omega
      · show (0 : Int) ≤ _; omega
    refine ⟨hs, ⟨hl0, hsm, ha, hb⟩, ?_⟩
    refine loopH_intro (α := Nat) (fun i => ([(0, .sl 1 (ls.map .str)), (4, .int .i64 n), (5, .bool big), (6, .bool flag), (33, .own 0 2 2), (34, .int .i64 2), (35, .int .i64 i)], [.arr 36 2 (L1.map aPos)])) (fun i => i ≤ 2) (fun i => 2 - i) 0 (by omega) ?_ ?_
    · simp (maxSteps := 4000000) only [Pg.look, true_and, and_true, subA, subQ, ptrsE, pairsO, frzO, subF, subG, pickOf, assocN, pairsE, pairsC, pairs0, frzE, frzC, frz0, frzH, Pg.freeze, List.foldl_nil, subOs, subO, subEv, subV_succ, subM, List.getElem?_cons_succ, List.getElem?_cons_zero, reduceCtorEq, Nat.reduceEqDiff, List.nil_append, List.append_nil, ite_true, ite_false, and_self, pickOK_one, Int.cast_ofNat_Int, Nat.lt_irrefl]
      exact subX_eq (by rw [e1]; rfl) (pureB_posL _)
    intro i hi
    by_cases h1 : i < 2
    · have hct : decide ((i : Int) < 2) = true := decide_eq_true (by omega)
      simp (maxSteps := 4000000) only [↓wpA_H, ↓wpH_skip, ↓wpH_seq, ↓wpH_cond, ↓wpH_block, ↓wpH_loop, ↓wpH_region, ↓iselH_true, bselH_false, runH_nil, runH_cons, gw, gselH_plain, cselH_bool, ↓chk, justK, noW, ↓oneK, ↓pureK, ↓heapK, ↓thenA_normal, ↓stepEv, opnd, Pg.look, binK, intOp, Bool.false_eq_true, implies_true, true_and, and_true, valV, heapV, footV, binV, intV, ofV, ofLeaf, slen, ldCells, objAt, AV.cells, TK.cells, AV.definite, AV.leaf, AV.leafy, putCells, lay, List.getElem?_cons_succ, List.getElem?_cons_zero, Option.getD_some, reduceCtorEq, Nat.reduceEqDiff, Nat.reduceAdd, List.nil_append, List.append_nil, List.cons_append, List.length_cons, List.length_nil, List.map_cons, List.map_nil, List.set_cons_zero, List.set_cons_succ, Nat.zero_add, ite_true, ite_false, Option.some.injEq, Option.isSome_some, AV.int.injEq, ne_eq, List.all_cons, List.all_nil, Bool.and_self, and_self, exists_eq_left', List.length_map, rg3, List.contains_nil, beq_self_eq_true, Int.cast_ofNat_Int, Nat.reducePow, Int.toNat_natCast, List.getD_cons_zero, cutL, List.drop_zero, List.drop_succ_cons, List.take_succ_cons, List.take_zero, Nat.sub_zero, Nat.reduceLeDiff, Nat.le_refl, Nat.mul_one, List.drop_nil, List.take_nil, Nat.zero_lt_succ, eb3, tk25, tk36, tz36, dz36, tk46, kKnown8, kText, kSPlace, kNext, kTail, kBackS, kBackE, kSame8, aMove, aMv, aPos_def, getD_pos, n1, hct]
      refine ⟨by omega, h1, by decide, ?_⟩
      refine loopH_intro (α := Nat) (fun j => ([(0, .sl 1 (ls.map .str)), (4, .int .i64 n), (5, .bool big), (6, .bool flag), (33, .own 0 2 2), (34, .int .i64 2), (35, .int .i64 i), (16, .ptr 1 2 1 0 0), (42, .own 2 1 3), (43, .int .i64 3), (44, .int .i64 j)], [.arr 36 2 (L1.map aPos), .arr 36 2 [.agg [.int .i64 (L1.getD i (0, 0)).1, .int .i64 (L1.getD i (0, 0)).2]], .arr 3 1 (L2.map (.int .i64))])) (fun j => j ≤ 3) (fun j => 3 - j) 0 (by omega) ?_ ?_
      · simp (maxSteps := 4000000) only [Pg.look, true_and, and_true, subA, subQ, ptrsE, pairsO, frzO, subF, subG, pickOf, assocN, pairsE, pairsC, pairsL, pairs0, frzE, frzC, frzL, frz0, frzH, Pg.freeze, List.foldl_nil, subOs, subO, subEv, subV_succ, subM, List.getElem?_cons_succ, List.getElem?_cons_zero, reduceCtorEq, Nat.reduceEqDiff, Nat.reduceAdd, List.nil_append, List.append_nil, List.cons_append, Nat.zero_add, ite_true, ite_false, and_self, Int.cast_ofNat_Int, Nat.lt_irrefl, Nat.not_lt_zero]
        exact ⟨by decide, subX_eq rfl (pureB_posL _), subX_eq rfl rfl, subX_eq (by rw [e2]; rfl) (pureB_ints8 _ _)⟩
      intro j hj
      have hm := hL2 j
      by_cases h2 : j < 3
      · have hct2 : decide ((j : Int) < 3) = true := decide_eq_true (by omega)
        simp (maxSteps := 4000000) only [↓wpA_H, ↓wpH_skip, ↓wpH_seq, ↓wpH_cond, ↓wpH_block, ↓wpH_region, ↓iselH_true, ↓iselH_false, bselH_false, runH_nil, runH_cons, gw, gselH_plain, cselH_bool, ↓chk, justK, noW, ↓oneK, ↓pureK, ↓heapK, ↓thenA_normal, ↓blockA_normal, ↓stepEv, opnd, Pg.look, binK, intOp, Bool.not_true, Bool.false_eq_true, false_implies, implies_true, true_and, and_true, valV, heapV, footV, binV, intV, ofV, ofLeaf, subA, subQ, ptrsE, pairsO, frzO, subF, subG, pickOf, assocN, pairsE, pairsC, pairsL, pairs0, frzE, frzC, frzL, frz0, frzH, Pg.freeze, List.foldl_nil, subOs, subO, subEv, subV_succ, subM, ldCells, objAt, ↓callT, callC, callV, callH, normArgs, normA, normC, resL, res8_eq, res_succ, resM, shiftR, shift1, AV.cells, TK.cells, AV.definite, AV.leaf, AV.leafy, putCells, lay, List.getElem?_cons_succ, List.getElem?_cons_zero, Option.getD_some, reduceCtorEq, Nat.reduceEqDiff, Nat.reduceAdd, List.nil_append, List.append_nil, List.cons_append, List.length_cons, List.length_nil, List.map_cons, List.map_nil, List.set_cons_zero, List.set_cons_succ, Nat.zero_add, ite_true, ite_false, Option.some.injEq, Prod.mk.injEq, List.all_cons, List.all_nil, Bool.and_self, and_self, exists_eq_left', List.length_map, cInt_dec, cBool_dec, cSl_dec, cAgg_dec, lOne_dec, lCons_dec, dec2_some, List.contains_nil, beq_self_eq_true, Int.cast_ofNat_Int, List.range'_zero, decL_str, C1by_ns, C1by_pre, C1by_r, C1by_H, optP_some, optV_some, optH_some, Int.toNat_natCast, List.getD_cons_zero, cutL, List.drop_zero, List.drop_succ_cons, List.take_succ_cons, List.take_zero, Nat.sub_zero, Nat.le_refl, Nat.lt_irrefl, List.drop_nil, List.take_nil, Nat.not_lt_zero, Nat.zero_lt_succ, C1by_it, tk3, dz3, tk36, dz36, tk39, tz39, dz39, tk46, kKnown8, kText, kSPlace, kNext, kTail, kBackS, kBackE, kSame8, mvEq_self, aMove, aMv, aPos_def, getD_ints8, n2, hct2]
        exact ⟨⟨by omega, by omega⟩, h2, ⟨hft, hm⟩, ⟨hft, hm⟩, hft, hft, ⟨hft, hm⟩, ⟨hft, hm⟩, hft, hft, j + 1, by omega, by omega, by decide, ⟨subX_eq rfl (pureB_posL _), subX_eq rfl rfl, subX_eq rfl (pureB_ints8 _ _)⟩, by rw [wrap64 (by omega) (by omega)]; rfl⟩
      · have hcf2 : decide ((j : Int) < 3) = false := decide_eq_false (by omega)
        simp (maxSteps := 4000000) only [↓wpA_H, ↓wpH_ret, ↓wpH_exit, ↓wpH_seq, ↓wpH_cond, ↓wpH_region, ↓iselH_false, bselH_false, runH_nil, runH_cons, gw, gselH_plain, cselH_bool, ↓chk, justK, ↓oneK, ↓pureK, ↓thenA_normal, ↓thenA_exit, ↓blockA_normal, ↓blockA_exit, ↓stepEv, opnd, Pg.look, binK, intOp, Bool.false_eq_true, implies_true, true_and, and_true, valV, heapV, footV, binV, intV, ofV, ofLeaf, retA, resK, tupA, subA, subQ, ptrsE, pairsO, frzO, subF, subG, pickOf, assocN, pairsE, pairsC, pairs0, frzE, frzC, frz0, frzH, Pg.freeze, List.foldl_nil, subOs, subO, subEv, subV_succ, subM, List.getElem?_cons_zero, reduceCtorEq, Nat.reduceEqDiff, List.nil_append, List.append_nil, List.length_nil, ite_true, ite_false, and_self, pickOK_nil, pickOK_one, List.contains_nil, Nat.lt_irrefl, kKnown8, kText, kSPlace, kNext, kTail, kBackS, kBackE, kSame8, aMove, aMv, aPos_def, hcf2]
        exact ⟨i + 1, by omega, by omega, subX_eq rfl (pureB_posL _), by rw [wrap64 (by omega) (by omega)]; rfl⟩
    · have hcf : decide ((i : Int) < 2) = false := decide_eq_false (by omega)
      simp (maxSteps := 4000000) only [↓wpA_H, ↓wpH_ret, ↓wpH_exit, ↓wpH_seq, ↓wpH_cond, ↓wpH_region, ↓iselH_false, bselH_false, runH_nil, runH_cons, gw, gselH_plain, cselH_bool, ↓chk, justK, ↓oneK, ↓pureK, ↓thenA_normal, ↓thenA_exit, ↓blockA_exit, ↓stepEv, opnd, Pg.look, binK, intOp, Bool.false_eq_true, implies_true, valV, heapV, footV, binV, intV, ofV, ofLeaf, retA, resK, tupA, subA, subQ, ptrsE, frzO, subF, subG, pickOf, frzE, frzC, frz0, frzH, Pg.freeze, List.foldl_nil, subOs, subEv, subV_succ, subM, reduceCtorEq, Nat.reduceEqDiff, List.append_nil, List.length_nil, ite_true, ite_false, and_self, pickOK_nil, List.contains_nil, kKnown8, kText, kSPlace, kNext, kTail, kBackS, kBackE, kSame8, aMove, aMv, aPos_def, hcf]
end Go.Pg
namespace Go.Pg
open Go Go.Proofs

theorem nth_one (l : List (Int × Int)) (way : Int) : nth l 1 way = match l with
    | [] => mNone
    | q :: _ => mTo q way := by
  cases l with
  | nil => rfl
  | cons q l =>
    unfold nth
    rw [if_neg (by simp; omega)]
    rfl

theorem cls_big (c : Int) (b : Bool) : (cls c b == 0) = (c == 32 || c == 9) := by
  unfold cls
  generalize (c == 32 || c == 9) = x
  generalize wordB c = y
  cases x <;> cases b <;> cases y <;> rfl
theorem cls_true (c : Int) : cls c true = if (c == 32 || c == 9) = true then 0 else 1 := by
  unfold cls
  rfl
/-- A change from a blank or to one is a change of the small classes too. -/
theorem cls_diff (c d : Int) (h1 : (cls c true != 0) = true) (h2 : (cls d true != cls c true) = true) : (cls c false != 0) = true ∧ (cls d false != cls c false) = true := by
  have a1 := cls_big c true
  have a2 := cls_big c false
  have b2 := cls_big d false
  rw [cls_true, cls_true] at h2
  generalize (c == 32 || c == 9) = x at *
  generalize (d == 32 || d == 9) = y at *
  simp only [bne, a1, Bool.not_eq_true'] at h1
  subst h1
  have e : y = true := by
    cases y with
    | true => rfl
    | false => exact absurd h2 (by decide)
  subst e
  rw [beq_iff_eq] at b2
  rw [beq_eq_false_iff_ne] at a2
  refine ⟨by simpa using a2, ?_⟩
  rw [b2, bne_iff_ne]
  exact fun h => a2 h.symm
theorem start_small (s : List UInt8) (i : Nat) (h : startB true s i = true) : startB false s i = true := by
  unfold startB at h ⊢
  rw [Bool.and_eq_true, Bool.or_eq_true] at h ⊢
  obtain ⟨h1, h2⟩ := h
  rcases h2 with h2 | h2
  · refine ⟨?_, .inl h2⟩
    have a1 := cls_big (s.getD i 0).toNat true
    have a2 := cls_big (s.getD i 0).toNat false
    simp only [bne, a1, a2] at h1 ⊢
    exact h1
  · obtain ⟨g1, g2⟩ := cls_diff _ _ h1 h2
    exact ⟨g1, .inr g2⟩
theorem end_small (s : List UInt8) (i : Nat) (h : endB true s i = true) : endB false s i = true := by
  unfold endB at h ⊢
  rw [Bool.and_eq_true, Bool.or_eq_true] at h ⊢
  obtain ⟨h1, h2⟩ := h
  rcases h2 with h2 | h2
  · refine ⟨?_, .inl h2⟩
    have a1 := cls_big (s.getD i 0).toNat true
    have a2 := cls_big (s.getD i 0).toNat false
    simp only [bne, a1, a2] at h1 ⊢
    exact h1
  · obtain ⟨g1, g2⟩ := cls_diff _ _ h1 h2
    exact ⟨g1, .inr g2⟩

theorem marks_sub (e : Bool) (g g' : List UInt8 → Nat → Bool) (hg : ∀ s i, g s i = true → g' s i = true) (ls : Ls) (n : Nat) (q : Int × Int) (h : q ∈ marksTo e g ls n) : q ∈ marksTo e g' ls n := by
  unfold marksTo at h ⊢
  rw [List.mem_flatMap] at h ⊢
  obtain ⟨l, hl, hq⟩ := h
  refine ⟨l, hl, ?_⟩
  unfold lineMarks at hq ⊢
  rcases List.mem_append.1 hq with hq | hq
  · exact List.mem_append.2 (.inl hq)
  · refine List.mem_append.2 (.inr ?_)
    unfold marksIn at hq ⊢
    obtain ⟨i, hi, rfl⟩ := List.mem_map.1 hq
    obtain ⟨h1, h2⟩ := List.mem_filter.1 hi
    exact List.mem_map.2 ⟨i, List.mem_filter.2 ⟨h1, hg _ _ h2⟩, rfl⟩

theorem less_irr (a : Int × Int) : less a a = false := by simp [less]
theorem less_asymm {a b : Int × Int} (h : less a b = true) : less b a = false := by
  cases hb : less b a with
  | false => rfl
  | true => have := less_trans h hb; rw [less_irr] at this; cases this

/-- The first of more is no later. -/
theorem first_le (S B : List (Int × Int)) (p : Int × Int) (here : Bool) (way : Int) (hs : S.Pairwise (fun a b => less a b = true)) (hsub : ∀ q ∈ B, q ∈ S) :
    (nth (behind B p here) 1 way).2 = true → (nth (behind S p here) 1 way).2 = true ∧ less (nth (behind B p here) 1 way).1.1 (nth (behind S p here) 1 way).1.1 = false := by
  intro h
  rw [nth_one] at h ⊢
  rw [nth_one]
  cases hB : behind B p here with
  | nil => rw [hB] at h; exact absurd h (by simp [mNone])
  | cons q r =>
    have hq : q ∈ behind B p here := by rw [hB]; simp
    obtain ⟨h1, h2⟩ := List.mem_filter.1 hq
    have hqS : q ∈ behind S p here := List.mem_filter.2 ⟨hsub q h1, h2⟩
    have hp : (behind S p here).Pairwise (fun a b => less a b = true) := hs.filter _
    cases hS : behind S p here with
    | nil => rw [hS] at hqS; simp at hqS
    | cons t u =>
      refine ⟨rfl, ?_⟩
      show less q t = false
      rw [hS] at hqS hp
      rcases List.mem_cons.1 hqS with rfl | hm
      · exact less_irr _
      · exact less_asymm ((List.pairwise_cons.1 hp).1 q hm)

theorem wNext_plain (ls : Ls) (p : Int × Int) (n : Int) (big : Bool) (hm : may ls p n = true) : wNext ls p n big false = nth (behind (marksOf true true big ls) p false) n 0 := by
  rw [wNext, if_pos hm]
  simp only [Bool.false_and, stopAt]
  unfold nth
  by_cases h : n ≤ ((behind (marksOf true true big ls) p false).length : Int)
  · rw [if_pos h, if_neg (show ¬ ((false : Bool) = true) by simp), if_neg (show ¬ n > ((behind (marksOf true true big ls) p false).length : Int) by omega)]
  · rw [if_neg h, if_neg (show ¬ ((false : Bool) = true) by simp), if_pos (show n > ((behind (marksOf true true big ls) p false).length : Int) by omega)]
theorem wNext_way (ls : Ls) (p : Int × Int) (n : Int) (big op : Bool) : (wNext ls p n big op).1.2.1 = 0 := by
  unfold wNext stopAt wEnd
  repeat' split
  all_goals (try rfl)
  all_goals (simp only; repeat' split)
  all_goals rfl

set_option maxRecDepth 40000 in
set_option maxHeartbeats 8000000 in
theorem calls_WordsBig (ls : Ls) (a b : Int) (hs : ∀ i, (ls.getD i []).length ≤ 140737488355328) (ha : 0 ≤ a ∧ a < 65536) (hb : 0 ≤ b ∧ b < 65536) :
    CallsR Try.prog 6 [.sl 1 (ls.map .str), .int .u16 a, .int .u16 b] [] (.bool true) [] := by
  refine callsR_of (mrg := true) (dyn := []) (CtrOK.cons ok_known8 (CtrOK.cons ok_Text (CtrOK.cons ok_SPlace (CtrOK.cons ok_Next (CtrOK.cons ok_Tail (CtrOK.cons ok_RLess (CtrOK.nil _))))))) mixed Try.func6 rfl (by simp [Try.ntmps6]) (by kernel_rfl) ?_
  rw [show Try.f6.results.toList = [.tmp 6] from by kernel_rfl]
  cases ht : text ls with
  | false =>
    simp (maxSteps := 4000000) only [↓wpA_H, ↓wpH_skip, ↓wpH_ret, ↓wpH_seq, ↓wpH_cond, ↓wpH_region, ↓iselH_true, ↓iselH_false, bselH_false, runH_nil, runH_cons, gw, gselH_plain, cselH_bool, ↓chk, justK, ↓oneK, ↓pureK, envOf, ↓thenA_normal, ↓thenA_ret, ↓stepEv, opnd, Pg.look, Bool.not_false, Bool.not_true, Bool.false_eq_true, false_implies, implies_true, imp_self, true_and, and_true, valV, heapV, footV, ofV, ofLeaf, retA, resK, tupA, subA, subQ, ptrsE, frzO, subF, subG, pickOf, frzE, frzC, frz0, frzH, Pg.freeze, List.foldl_nil, subOs, subEv, subV_succ, subM, ↓callT, callC, callV, callH, normArgs, normA, normC, resL, res8_eq, res_succ, resM, shiftR, shift1, reduceCtorEq, Nat.reduceEqDiff, Nat.reduceAdd, List.nil_append, List.append_nil, List.length_nil, List.map_cons, List.map_nil, Nat.zero_add, ite_true, ite_false, Prod.mk.injEq, and_self, pickOK_nil, cSl_dec, lNil_dec, lOne_dec, List.contains_nil, List.range'_zero, decL_str, C1by_ns, C1by_pre, C1by_r, C1by_H, optP_some, optV_some, optH_some, C1by_it, kKnown8, kText, ht]
    exact hs
  | true =>
    have hft := fits8 ht
    obtain ⟨hl0, hl1, hl2⟩ := few_of_text ht
    have hsm : small ls := fits_small hft (by omega) (by omega)
    cases hpp : splace ls a b with | mk p1 p2
    have hmay : may ls (p1, p2) 1 = true := by
      have := splace_place ls a b hl0 hb.1
      rw [hpp] at this
      unfold may
      rw [this]; rfl
    have H1 := first_le (marksOf true true false ls) (marksOf true true true ls) (p1, p2) false 0 (marksOf_sorted _ _ _ _) (fun q hq => marks_sub true _ _ start_small ls ls.length q hq)
    have H2 := first_le (marksOf false false false ls) (marksOf false false true ls) (p1, p2) false 1 (marksOf_sorted _ _ _ _) (fun q hq => marks_sub false _ _ end_small ls ls.length q hq)
    rw [← wNext_plain _ _ _ _ hmay, ← wNext_plain _ _ _ _ hmay] at H1
    have tt : ∀ big, rTail ls (p1, p2) 1 big false = nth (behind (marksOf false false big ls) (p1, p2) false) 1 1 := fun big => by rw [rTail, if_pos hmay]
    rw [← tt, ← tt] at H2
    have H3 := wNext_way ls (p1, p2) 1 true false
    generalize hv : wNext ls (p1, p2) 1 true false = v at H1 H3
    generalize hw : wNext ls (p1, p2) 1 false false = w at H1
    generalize hx : rTail ls (p1, p2) 1 true false = x at H2
    generalize hy : rTail ls (p1, p2) 1 false false = y at H2
    obtain ⟨⟨⟨v1, v2⟩, vw, vj, vt⟩, vk⟩ := v
    obtain ⟨⟨⟨w1, w2⟩, ww, wj, wt⟩, wk⟩ := w
    obtain ⟨⟨⟨x1, x2⟩, xw, xj, xt⟩, xk⟩ := x
    obtain ⟨⟨⟨y1, y2⟩, yw, yj, yt⟩, yk⟩ := y
    simp (maxSteps := 4000000) only [↓wpA_H, ↓wpH_skip, ↓wpH_ret, ↓wpH_seq, ↓wpH_cond, ↓wpH_region, ↓iselH_false, bselH_false, runH_nil, runH_cons, gw, gselH_plain, gselH_if, kselH_0, kselH_1, cselH_bool, gkind, ↓chk, pickO, justK, noW, ↓oneK, ↓pureK, ↓heapK, envOf, ↓thenA_normal, ↓stepEv, opnd, Pg.look, binK, intOp, dstOf, Bool.not_true, Bool.false_eq_true, false_implies, implies_true, imp_self, true_and, and_true, pickC, pickV, unc, gof, mux, mergeK, condsL, valV, heapV, footV, binV, intV, mergeable, look_stripE, ofV, ofLeaf, sameK, retA, resK, tupA, subA, subQ, ptrsE, frzO, subF, subG, pickOf, frzE, frzC, frz0, frzH, Pg.freeze, List.foldl_nil, subOs, subEv, subV_succ, subM, ldCells, objAt, ↓callT, callC, callV, callH, normArgs, normA, normC, resL, res8_eq, res_succ, resM, shiftR, shift1, AV.cells, TK.cells, AV.definite, AV.leaf, AV.leafy, putCells, lay, Op.operands, Call.operands, Array.toList_append, List.getElem?_toArray, List.getElem?_cons_succ, List.getElem?_cons_zero, Option.bind_some, Option.getD_some, reduceCtorEq, Nat.reduceEqDiff, Nat.reduceAdd, List.nil_append, List.append_nil, List.cons_append, List.length_cons, List.length_nil, List.map_cons, List.map_nil, List.set_cons_zero, List.set_cons_succ, Nat.zero_add, ite_true, ite_false, Option.some.injEq, Prod.mk.injEq, Bool.if_false_right, Bool.if_true_left, Bool.decide_eq_true, List.all_cons, List.all_nil, Bool.and_self, and_self, Bool.not_eq_true', exists_eq_left', pickOK_nil, cInt_dec, cBool_dec, List.toList_toArray, Int.reduceLE, cSl_dec, cAgg_dec, lNil_dec, lOne_dec, lCons_dec, dec2_some, List.contains_nil, List.range'_zero, decL_str, C1by_ns, C1by_pre, C1by_r, C1by_H, optP_some, optV_some, optH_some, List.getD_cons_zero, cutL, List.drop_zero, List.drop_succ_cons, List.take_succ_cons, List.take_zero, Nat.add_zero, Nat.sub_zero, Nat.reduceLeDiff, Nat.le_refl, List.drop_nil, List.take_nil, Nat.zero_lt_succ, C1by_it, tk3, tk36, tz36, dz36, tk39, tz39, dz39, kKnown8, kText, kSPlace, kNext, kTail, kLess, aMove, aMv, aPos, ht, hpp, hv, hw, hx, hy]
    simp only at H1 H2 H3
    refine ⟨hs, ⟨hl0, hsm, ha, hb⟩, hft, hft, hft, hft, ?_⟩
    subst H3
    cases vk <;> cases wk <;> cases xk <;> cases yk <;> simp_all
end Go.Pg
namespace Go.Pg
open Go Go.Proofs

theorem lastOf_cases (l : List (Int × Int)) (p : Int × Int) : lastOf l p = p ∨ lastOf l p ∈ l := by
  unfold lastOf
  rcases List.eq_nil_or_concat l with h | ⟨r, q, h⟩
  · rw [h]; exact .inl rfl
  · rw [h, List.concat_eq_append, List.getLastD_concat]
    exact .inr (by simp)

theorem inLine (ls : Ls) (p : Int × Int) (n : Int) (big : Bool) (hm : may ls p n = true) :
    ((wNext ls p n big true).2 = false → (wNext ls p n big false).2 = false ∨ (wNext ls p n big false).1.1.1 > p.1) ∧
    ((wNext ls p n big true).2 = true → less p (wNext ls p n big true).1.1 = true ∧ 0 ≤ (wNext ls p n big true).1.1.1 ∧ (wNext ls p n big true).1.1.1 < ls.length ∧ (wNext ls p n big true).1.1.2 ≤ (ls.getD (wNext ls p n big true).1.1.1.toNat []).length ∧
      ((wNext ls p n big false).2 = false ∨ (wNext ls p n big true).1.1 = (wNext ls p n big false).1.1 ∨ ((wNext ls p n big true).1.1.1 < (wNext ls p n big false).1.1.1 ∧ (wNext ls p n big true).1.1.2 = (ls.getD (wNext ls p n big true).1.1.1.toNat []).length))) := by
  obtain ⟨hn, q1, q2, q3, q4⟩ := may_pos hm
  rw [wNext_plain ls p n big hm, wNext, if_pos hm]
  have hmem : ∀ q ∈ behind (marksOf true true big ls) p false, 0 ≤ q.1 ∧ q.1 < ls.length ∧ q.2 ≤ (ls.getD q.1.toNat []).length ∧ less p q = true := by
    intro q hq
    obtain ⟨g1, g2⟩ := List.mem_filter.1 hq
    obtain ⟨g3, g4, g5, g6⟩ := (marksTo_sorted _ _ _ _).2 q g1
    exact ⟨g3, g4, g6, by simpa [isBehind] using g2⟩
  generalize behind (marksOf true true big ls) p false = l at hmem ⊢
  simp only
  have hline : ∀ q, less p q = true → p.1 ≤ q.1 := fun q h => by
    unfold less at h
    simp only [Bool.or_eq_true, Bool.and_eq_true, decide_eq_true_eq, beq_iff_eq] at h
    omega
  by_cases h : n ≤ (l.length : Int)
  · rw [if_pos h]
    have hs := hmem (l.getD (n - 1).toNat (0, 0)) (by rw [List.getD_eq_getElem?_getD, List.getElem?_eq_getElem (by omega)]; exact List.getElem_mem _)
    have hv : nth l n 0 = mTo (l.getD (n - 1).toNat (0, 0)) 0 := by rw [nth, if_neg (by omega)]
    rw [hv]
    have hlast : 0 ≤ (lastOf (l.take (n - 1).toNat) p).1 ∧ (lastOf (l.take (n - 1).toNat) p).1 < ls.length ∧ p.1 ≤ (lastOf (l.take (n - 1).toNat) p).1 := by
      rcases lastOf_cases (l.take (n - 1).toNat) p with h | h
      · rw [h]; exact ⟨q1, q2, Int.le_refl _⟩
      · obtain ⟨g1, g2, g3, g4⟩ := hmem _ (List.mem_of_mem_take h)
        exact ⟨g1, g2, hline _ g4⟩
    generalize l.getD (n - 1).toNat (0, 0) = s at hs ⊢
    generalize lastOf (l.take (n - 1).toNat) p = last at hlast ⊢
    obtain ⟨l1, l2, l3⟩ := hlast
    obtain ⟨s1, s2, s3, s4⟩ := hs
    unfold stopAt
    by_cases hd : s.1 > last.1
    · rw [if_pos (by simpa using hd), wEnd]
      by_cases he : less p (last.1, ((ls.getD last.1.toNat []).length : Int)) = true
      · rw [if_pos he]
        exact ⟨fun hh => absurd hh (by simp [mTo]), fun _ => ⟨he, l1, l2, Int.le_refl _, .inr (.inr ⟨hd, rfl⟩)⟩⟩
      · rw [if_neg he]
        exact ⟨fun _ => .inr (by show s.1 > p.1; omega), fun hh => absurd hh (by simp [mNone])⟩
    · rw [if_neg (by simpa using hd)]
      exact ⟨fun hh => absurd hh (by simp [mTo]), fun _ => ⟨s4, s1, s2, s3, .inr (.inl rfl)⟩⟩
  · have hv : nth l n 0 = mNone := by rw [nth, if_pos (by omega)]
    rw [if_neg h, hv]
    refine ⟨fun _ => .inl rfl, ?_⟩
    by_cases hd : n - (l.length : Int) = 1
    · rw [if_pos (by simpa using hd), wEnd]
      by_cases he : less p ((ls.length : Int) - 1, ((ls.getD ((ls.length : Int) - 1).toNat []).length : Int)) = true
      · rw [if_pos he]
        exact fun _ => ⟨he, by show 0 ≤ (ls.length : Int) - 1; omega, by show (ls.length : Int) - 1 < ls.length; omega, Int.le_refl _, .inl rfl⟩
      · rw [if_neg he]
        exact fun hh => absurd hh (by simp [mNone])
    · rw [if_neg (by simpa using hd)]
      exact fun hh => absurd hh (by simp [mNone])

theorem tmod_pos (n m : Int) (h : 0 ≤ n) (hm : 0 < m) : 0 ≤ n.tmod m ∧ n.tmod m < m := ⟨Int.tmod_nonneg m h, Int.tmod_lt_of_pos n hm⟩

set_option maxRecDepth 40000 in
set_option maxHeartbeats 8000000 in
theorem calls_WordsInLine (ls : Ls) (a b : Int) (n : Int) (big : Bool) (hs : ∀ i, (ls.getD i []).length ≤ 140737488355328) (ha : 0 ≤ a ∧ a < 65536) (hb : 0 ≤ b ∧ b < 65536) (hn : 0 ≤ n ∧ n < 256) :
    CallsR Try.prog 5 [.sl 1 (ls.map .str), .int .u16 a, .int .u16 b, .int .u8 n, .bool big] [] (.bool true) [] := by
  refine callsR_of (mrg := true) (dyn := []) (CtrOK.cons ok_known8 (CtrOK.cons ok_Text (CtrOK.cons ok_SPlace (CtrOK.cons ok_Next (CtrOK.cons ok_RLess (CtrOK.nil _)))))) mixed Try.func5 rfl (by simp [Try.ntmps5]) (by kernel_rfl) ?_
  rw [show Try.f5.results.toList = [.tmp 10] from by kernel_rfl]
  cases ht : text ls with
  | false =>
    simp (maxSteps := 4000000) only [↓wpA_H, ↓wpH_skip, ↓wpH_ret, ↓wpH_seq, ↓wpH_cond, ↓wpH_region, ↓iselH_true, ↓iselH_false, bselH_false, runH_nil, runH_cons, gw, gselH_plain, cselH_bool, ↓chk, justK, ↓oneK, ↓pureK, envOf, ↓thenA_normal, ↓thenA_ret, ↓stepEv, opnd, Pg.look, Bool.not_false, Bool.not_true, Bool.false_eq_true, false_implies, implies_true, imp_self, true_and, and_true, valV, heapV, footV, ofV, ofLeaf, retA, resK, tupA, subA, subQ, ptrsE, frzO, subF, subG, pickOf, frzE, frzC, frz0, frzH, Pg.freeze, List.foldl_nil, subOs, subEv, subV_succ, subM, ↓callT, callC, callV, callH, normArgs, normA, normC, resL, res8_eq, res_succ, resM, shiftR, shift1, reduceCtorEq, Nat.reduceEqDiff, Nat.reduceAdd, List.nil_append, List.append_nil, List.length_nil, List.map_cons, List.map_nil, Nat.zero_add, ite_true, ite_false, Prod.mk.injEq, and_self, pickOK_nil, cSl_dec, lNil_dec, lOne_dec, List.contains_nil, List.range'_zero, decL_str, C1by_ns, C1by_pre, C1by_r, C1by_H, optP_some, optV_some, optH_some, C1by_it, kKnown8, kText, ht]
    exact hs
  | true =>
    have hft := fits8 ht
    obtain ⟨hl0, hl1, hl2⟩ := few_of_text ht
    have hsm : small ls := fits_small hft (by omega) (by omega)
    cases hpp : splace ls a b with | mk p1 p2
    obtain ⟨t0, t1⟩ := tmod_pos n 5 hn.1 (by omega)
    have w1 : IntKind.i64.wrap (n.tmod 5) = n.tmod 5 := wrap64 (by omega) (by omega)
    have w2 : IntKind.i64.wrap (n.tmod 5 + 1) = n.tmod 5 + 1 := wrap64 (by omega) (by omega)
    have hmay : may ls (p1, p2) (n.tmod 5 + 1) = true := by
      have := splace_place ls a b hl0 hb.1
      rw [hpp] at this
      unfold may
      rw [this, Bool.true_and, decide_eq_true_eq]
      omega
    obtain ⟨H1, H2⟩ := inLine ls (p1, p2) (n.tmod 5 + 1) big hmay
    generalize hv : wNext ls (p1, p2) (n.tmod 5 + 1) big true = v at H1 H2
    generalize hw : wNext ls (p1, p2) (n.tmod 5 + 1) big false = w at H1 H2
    obtain ⟨⟨⟨v1, v2⟩, vw, vj, vt⟩, vk⟩ := v
    obtain ⟨⟨⟨w1', w2'⟩, ww, wj, wt⟩, wk⟩ := w
    simp only at H1 H2
    cases vk with
    | true =>
      simp (maxSteps := 4000000) only [↓wpA_H, ↓wpH_skip, ↓wpH_ret, ↓wpH_seq, ↓wpH_cond, ↓wpH_region, ↓iselH_false, iselH_if, bselH_false, runH_nil, runH_cons, gw, gselH_plain, gselH_if, kselH_0, kselH_1, cselH_bool, gkind, ↓chk, pickO, justK, noW, ↓oneK, ↓pureK, ↓heapK, envOf, ↓thenA_normal, ↓thenA_ret, ↓stepEv, opnd, Pg.look, binK, intOp, cellsEq, leafEq, dstOf, Bool.and_true, Bool.not_true, Bool.false_eq_true, false_implies, implies_true, imp_self, true_and, and_true, pickC, pickV, unc, gof, mux, mergeK, condsL, valV, heapV, footV, binV, intV, mergeable, look_stripE, ofV, ofLeaf, sameK, retA, resK, tupA, subA, subQ, ptrsE, frzO, subF, subG, pickOf, frzE, frzC, frz0, frzH, Pg.freeze, List.foldl_nil, subOs, subEv, subV_succ, subM, ldCells, objAt, ↓callT, callC, callV, callH, normArgs, normA, normC, resL, res8_eq, res_succ, resM, shiftR, shift1, AV.cells, TK.cells, AV.definite, AV.leaf, AV.leafy, putCells, lay, Op.operands, Call.operands, Array.toList_append, List.getElem?_toArray, List.getElem?_cons_succ, List.getElem?_cons_zero, Option.bind_some, Option.getD_some, reduceCtorEq, Nat.reduceEqDiff, Nat.reduceAdd, List.nil_append, List.append_nil, List.cons_append, List.length_cons, List.length_nil, List.map_cons, List.map_nil, List.set_cons_zero, List.set_cons_succ, Nat.zero_add, ite_true, ite_false, Option.some.injEq, Prod.mk.injEq, Bool.if_false_right, Bool.if_true_left, Bool.decide_eq_true, decide_eq_true_eq, decide_eq_false_iff_not, Int.not_lt, ne_eq, not_false_eq_true, List.all_cons, List.all_nil, Bool.and_self, and_self, Bool.not_eq_true', exists_eq_left', pickOK_nil, List.length_map, cInt_dec, cBool_dec, List.toList_toArray, cSl_dec, cAgg_dec, lNil_dec, lOne_dec, lCons_dec, dec2_some, List.contains_nil, List.range'_zero, decL_str, C1by_ns, C1by_pre, C1by_r, C1by_H, optP_some, optV_some, optH_some, getD_str, List.getD_cons_zero, cutL, List.drop_zero, List.drop_succ_cons, List.take_succ_cons, List.take_zero, Nat.add_zero, Nat.sub_zero, Nat.reduceLeDiff, Nat.le_refl, List.drop_nil, List.take_nil, Nat.zero_lt_succ, C1by_it, tk3, tk5, tk9, dz9, tk22, tk36, tz36, dz36, eq36, tk39, tz39, dz39, kKnown8, kText, kSPlace, kNext, kLess, aMove, aMv, aPos, ht, hpp, w1, w2, hv, hw]
      obtain ⟨h1, h2, h3, h4, h5⟩ := H2 rfl
      have hf1 : (decide (less (p1, p2) (v1, v2) = false) || decide (v2 > ((ls.getD v1.toNat []).length : Int))) = false := by
        rw [h1, decide_eq_false (show ¬ v2 > ((ls.getD v1.toNat []).length : Int) by omega)]; rfl
      refine ⟨hs, ⟨hl0, hsm, ha, hb⟩, by decide, ⟨hft, by omega⟩, ⟨hft, by omega⟩, fun h => ⟨h, h2, by omega⟩, fun h => absurd h (by rw [hf1]; simp), fun _ => ⟨fun h => ⟨h, h2, by omega⟩, fun h => ⟨h, fun h' => by rw [h]; simpa using h'⟩, ?_⟩⟩
      rcases h5 with h5 | h5 | h5
      · rw [h5]; rfl
      · cases h5; simp
      · obtain ⟨h5, h6⟩ := h5
        subst h6
        simp [h5]
    | false =>
      simp (maxSteps := 4000000) only [↓wpA_H, ↓wpH_skip, ↓wpH_ret, ↓wpH_seq, ↓wpH_cond, ↓wpH_region, ↓iselH_true, ↓iselH_false, bselH_false, runH_nil, runH_cons, gw, gselH_plain, gselH_if, kselH_1, cselH_bool, gkind, ↓chk, justK, noW, ↓oneK, ↓pureK, ↓heapK, envOf, ↓thenA_normal, ↓thenA_ret, ↓stepEv, opnd, Pg.look, binK, intOp, dstOf, Bool.not_false, Bool.not_true, Bool.false_eq_true, false_implies, implies_true, imp_self, true_and, and_true, pickC, pickV, unc, gof, mux, mergeK, condsL, valV, heapV, footV, binV, intV, mergeable, look_stripE, ofV, ofLeaf, sameK, retA, resK, tupA, subA, subQ, ptrsE, frzO, subF, subG, pickOf, frzE, frzC, frz0, frzH, Pg.freeze, List.foldl_nil, subOs, subEv, subV_succ, subM, ldCells, objAt, ↓callT, callC, callV, callH, normArgs, normA, normC, resL, res8_eq, res_succ, resM, shiftR, shift1, AV.cells, TK.cells, AV.definite, AV.leaf, AV.leafy, putCells, lay, Op.operands, List.getElem?_toArray, List.getElem?_cons_succ, List.getElem?_cons_zero, Option.bind_some, Option.getD_some, reduceCtorEq, Nat.reduceEqDiff, Nat.reduceAdd, List.nil_append, List.append_nil, List.cons_append, List.length_cons, List.length_nil, List.map_cons, List.map_nil, List.set_cons_zero, List.set_cons_succ, Nat.zero_add, ite_true, ite_false, Option.some.injEq, Prod.mk.injEq, Bool.if_true_left, ne_eq, not_false_eq_true, List.all_cons, List.all_nil, Bool.and_self, and_self, Bool.not_eq_true', exists_eq_left', pickOK_nil, cInt_dec, cBool_dec, List.toList_toArray, cSl_dec, cAgg_dec, lNil_dec, lOne_dec, lCons_dec, dec2_some, List.contains_nil, List.range'_zero, decL_str, C1by_ns, C1by_pre, C1by_r, C1by_H, optP_some, optV_some, optH_some, List.getD_cons_zero, cutL, List.drop_zero, List.drop_succ_cons, List.take_succ_cons, List.take_zero, Nat.add_zero, Nat.sub_zero, Nat.le_refl, List.drop_nil, List.take_nil, Nat.zero_lt_succ, C1by_it, tk3, tk5, tk36, tz36, dz36, tk39, tz39, dz39, kKnown8, kText, kSPlace, kNext, kLess, aMove, aMv, aPos, ht, hpp, w1, w2, hv, hw]
      refine ⟨hs, ⟨hl0, hsm, ha, hb⟩, by decide, ⟨hft, by omega⟩, ⟨hft, by omega⟩, ?_⟩
      rcases H1 rfl with h | h
      · rw [h]; rfl
      · simp [h]
end Go.Pg
namespace Go.Pg
open Go Go.Proofs

set_option maxRecDepth 20000 in
set_option maxHeartbeats 4000000 in
theorem calls_Places_self (l : List (Int × Int)) (h : l.length ≤ 1099511627776) : CallsR Try.prog 15 [.sl 2 (l.map aPos), .sl 2 (l.map aPos)] [] (.bool true) [] := by
  refine callsR_of (mrg := true) (dyn := []) (CtrOK.nil _) mixed Try.func15 rfl (by simp [Try.ntmps15]) (by kernel_rfl) ?_
  rw [show Try.f15.results.toList = [.tmp 4] from by kernel_rfl]
  simp (maxSteps := 4000000) only [↓wpA_H, ↓wpH_skip, ↓wpH_seq, ↓wpH_cond, ↓wpH_block, ↓wpH_loop, ↓wpH_region, ↓iselH_false, bselH_false, runH_nil, runH_cons, gw, gselH_plain, cselH_bool, ↓chk, justK, ↓oneK, ↓pureK, envOf, ↓thenA_normal, ↓stepEv, opnd, Pg.look, binK, intOp, Bool.false_eq_true, implies_true, true_and, and_true, valV, heapV, footV, binV, intV, ofV, ofLeaf, slen, Option.getD_some, reduceCtorEq, Nat.reduceEqDiff, List.length_nil, Nat.zero_add, ite_true, ite_false, Option.some.injEq, AV.int.injEq, and_self, exists_eq_left', List.length_map, List.contains_nil, bne_self_eq_false, tk25]
  refine loopH_intro (α := Nat) (fun i => ([(0, .sl 2 (l.map aPos)), (1, .sl 2 (l.map aPos)), (5, .int .i64 i)], [])) (fun i => i ≤ l.length) (fun i => l.length - i) 0 (by omega) ?_ ?_
  · simp (maxSteps := 4000000) only [Pg.look, subA, subQ, ptrsE, frzO, subF, subG, pickOf, frzE, frzC, frz0, frzH, Pg.freeze, List.foldl_nil, subOs, subEv, subV_succ, subM, reduceCtorEq, Nat.reduceEqDiff, List.append_nil, ite_true, ite_false, and_self, pickOK_nil, Int.cast_ofNat_Int]
    all_goals rfl
  intro i hi
  by_cases hlt : i < l.length
  · have hct : decide ((i : Int) < (l.length : Int)) = true := decide_eq_true (by omega)
    simp (maxSteps := 4000000) only [↓wpA_H, ↓wpH_skip, ↓wpH_seq, ↓wpH_cond, ↓wpH_block, ↓wpH_region, ↓iselH_true, ↓iselH_false, bselH_false, runH_nil, runH_cons, gw, gselH_plain, cselH_bool, ↓chk, justK, noW, ↓oneK, ↓pureK, ↓heapK, ↓thenA_normal, ↓blockA_normal, ↓stepEv, opnd, Pg.look, binK, intOp, cellsEq, leafEq, Bool.not_true, Bool.false_eq_true, implies_true, true_and, and_true, valV, heapV, footV, binV, intV, ofV, ofLeaf, subA, subQ, ptrsE, frzO, subF, subG, pickOf, frzE, frzC, frz0, frzH, Pg.freeze, List.foldl_nil, subOs, subEv, subV_succ, subM, slen, ldCells, AV.cells, TK.cells, Option.getD_some, reduceCtorEq, Nat.reduceEqDiff, Nat.reduceAdd, List.append_nil, List.length_cons, List.length_nil, Nat.zero_add, ite_true, ite_false, Option.some.injEq, AV.int.injEq, Bool.and_self, and_self, exists_eq_left', pickOK_nil, List.length_map, List.contains_nil, beq_self_eq_true, Int.toNat_natCast, cutL, List.drop_zero, List.take_succ_cons, Nat.sub_zero, Nat.le_refl, List.take_nil, tk25, tk36, dz36, eq36, getD_pos, aPos_def, hct]
    exact ⟨⟨by omega, hlt⟩, ⟨by omega, hlt⟩, i + 1, by omega, by omega, by rw [wrap64 (by omega) (by omega)]; rfl⟩
  · have hcf : decide ((i : Int) < (l.length : Int)) = false := decide_eq_false (by omega)
    simp (maxSteps := 4000000) only [↓wpA_H, ↓wpH_ret, ↓wpH_exit, ↓wpH_seq, ↓wpH_cond, ↓wpH_region, ↓iselH_false, bselH_false, runH_nil, runH_cons, gw, gselH_plain, cselH_bool, ↓chk, justK, ↓oneK, ↓pureK, ↓thenA_normal, ↓thenA_exit, ↓blockA_exit, ↓stepEv, opnd, Pg.look, binK, intOp, Bool.false_eq_true, implies_true, true_and, and_true, valV, heapV, footV, binV, intV, ofV, ofLeaf, retA, resK, tupA, subA, subQ, ptrsE, frzO, subF, subG, pickOf, frzE, frzC, frz0, frzH, Pg.freeze, List.foldl_nil, subOs, subEv, subV_succ, subM, slen, Option.getD_some, reduceCtorEq, Nat.reduceEqDiff, List.append_nil, List.length_nil, ite_true, ite_false, Option.some.injEq, AV.int.injEq, and_self, exists_eq_left', pickOK_nil, List.length_map, List.contains_nil, tk25, hcf]
def kPlacesE : C1 := C1.by [.sl 2 [], .sl 2 []] (lCons (cSl 2 cPos2) (lOne (cSl 2 cPos2))) (fun d => d.1 = d.2 ∧ d.1.length ≤ 1099511627776) (fun _ => .bool true) (fun _ => [])
theorem ok_PlacesE : C1OK Try.prog 15 kPlacesE := by
  refine C1OK.by (by kernel_rfl) (fun d h => ?_) (fun _ => rfl) (fun _ => rfl)
  obtain ⟨x, y⟩ := d
  obtain ⟨h1, h2⟩ := h
  simp only at h1 h2
  subst h1
  exact calls_Places_self x h2

def kHeard : C1 := C1.by [.id, .id] (lCons (cFn 44 lAt) (lOne (cInt .i64))) (fun d => fits 65536 65536 d.1.1) (fun d => .tuple [.sl 2 (((marksOf d.1.2.2.1 d.1.2.1 d.1.2.2.2 d.1.1).take (heardN d.2)).map aPos), .bool true]) (fun _ => [])
theorem ok_heard : C1OK Try.prog 10 kHeard := C1OK.by (by kernel_rfl) (fun d h => calls_heard d.1.1 d.1.2.1 d.1.2.2.1 d.1.2.2.2 d.2 h) (fun _ => rfl) (fun _ => rfl)

theorem marks_total (e : Bool) (g : List UInt8 → Nat → Bool) (ls : Ls) : ∀ (n : Nat), n ≤ ls.length → (marksTo e g ls n).length ≤ total (ls.take n) + n := by
  intro n
  induction n with
  | zero => intro _; simp [marksTo]
  | succ n ih =>
    intro h
    have h1 := ih (by omega)
    rw [marksTo_succ, List.length_append, total_take ls n (by omega), lineMarks_len]
    have h2 := marksIn_len g n (ls.getD n []) (ls.getD n []).length
    have h3 : lineLead e (ls.getD n []) ≤ 1 := by unfold lineLead; split <;> omega
    omega

theorem le_total : ∀ (ls : Ls) (s : List UInt8), s ∈ ls → s.length ≤ total ls := by
  intro ls
  induction ls with
  | nil => intro s h; simp at h
  | cons t ls ih =>
    intro s h
    have e : total (t :: ls) = t.length + total ls := rfl
    rcases List.mem_cons.1 h with rfl | h
    · omega
    · have := ih s h; omega

theorem light_sizes {ls : Ls} (h : light ls = true) : ls.length ≤ 40 ∧ total ls ≤ 1200 ∧ fits 65536 65536 ls := by
  unfold light at h
  simp only [Bool.and_eq_true, decide_eq_true_eq] at h
  obtain ⟨⟨h1, h2⟩, _⟩ := h
  refine ⟨h1, h2, by omega, fun s hs => ?_⟩
  have : s.length ≤ total ls := by
    exact le_total ls s hs
  omega

set_option maxRecDepth 40000 in
set_option maxHeartbeats 8000000 in
theorem calls_WordsMark (ls : Ls) (big : Bool) (n : Int) (hs : ∀ i, (ls.getD i []).length ≤ 140737488355328) (hn : 0 ≤ n ∧ n < 256) :
    CallsR Try.prog 3 [.sl 1 (ls.map .str), .bool big, .int .u8 n] [] (.bool true) [] := by
  refine callsR_of (mrg := true) (dyn := []) (CtrOK.cons ok_known8 (CtrOK.cons ok_Light (CtrOK.cons ok_StartsF (CtrOK.cons ok_EndsF (CtrOK.cons ok_heard (CtrOK.cons ok_RStarts (CtrOK.cons ok_REnds (CtrOK.cons ok_PlacesE (CtrOK.nil _))))))))) mixed Try.func3 rfl (by simp [Try.ntmps3]) (by kernel_rfl) ?_
  rw [show Try.f3.results.toList = [.tmp 6] from by kernel_rfl]
  cases ht : light ls with
  | false =>
    simp (maxSteps := 4000000) only [↓wpA_H, ↓wpH_skip, ↓wpH_ret, ↓wpH_seq, ↓wpH_cond, ↓wpH_region, ↓iselH_true, ↓iselH_false, bselH_false, runH_nil, runH_cons, gw, gselH_plain, cselH_bool, ↓chk, justK, ↓oneK, ↓pureK, envOf, ↓thenA_normal, ↓thenA_ret, ↓stepEv, opnd, Pg.look, Bool.not_false, Bool.not_true, Bool.false_eq_true, false_implies, implies_true, imp_self, true_and, and_true, valV, heapV, footV, ofV, ofLeaf, retA, resK, tupA, subA, subQ, ptrsE, frzO, subF, subG, pickOf, frzE, frzC, frz0, frzH, Pg.freeze, List.foldl_nil, subOs, subEv, subV_succ, subM, ↓callT, callC, callV, callH, normArgs, normA, normC, resL, res8_eq, res_succ, resM, shiftR, shift1, reduceCtorEq, Nat.reduceEqDiff, Nat.reduceAdd, List.nil_append, List.append_nil, List.length_nil, List.map_cons, List.map_nil, Nat.zero_add, ite_true, ite_false, Prod.mk.injEq, and_self, pickOK_nil, cSl_dec, lNil_dec, lOne_dec, List.contains_nil, List.range'_zero, decL_str, C1by_ns, C1by_pre, C1by_r, C1by_H, optP_some, optV_some, optH_some, C1by_it, kKnown8, kLight, ht]
    exact hs
  | true =>
    obtain ⟨s1, s2, hft⟩ := light_sizes ht
    have hm : ∀ st e, (marksOf st e big ls).length ≤ 1240 := fun st e => by
      have := marks_total e (gOf st big) ls ls.length (Nat.le_refl _)
      rw [List.take_of_length_le (Nat.le_refl _)] at this
      show (marksTo e (gOf st big) ls ls.length).length ≤ _
      omega
    have m1 := hm true true
    have m2 := hm false false
    have e1 : (marksOf true true big ls).take (heardN 5000) = marksOf true true big ls := List.take_of_length_le (by show _ ≤ 5000; omega)
    have e2 : (marksOf false false big ls).take (heardN 5000) = marksOf false false big ls := List.take_of_length_le (by show _ ≤ 5000; omega)
    obtain ⟨t0, t1⟩ := tmod_pos n 20 hn.1 (by omega)
    have w1 : IntKind.i64.wrap (n.tmod 20) = n.tmod 20 := wrap64 (by omega) (by omega)
    have w2 : IntKind.i64.wrap (n.tmod 20 + 1) = n.tmod 20 + 1 := wrap64 (by omega) (by omega)
    have hk : ∀ M : List (Int × Int), M.take (heardN (n.tmod 20 + 1)) = M.take (min (n.tmod 20 + 1) (M.length : Int)).toNat := fun M => by
      have hh : heardN (n.tmod 20 + 1) = (n.tmod 20 + 1).toNat := by unfold heardN; omega
      rw [hh]
      by_cases h : n.tmod 20 + 1 ≤ (M.length : Int)
      · rw [Int.min_eq_left h]
      · rw [Int.min_eq_right (by omega), List.take_of_length_le (by omega), List.take_of_length_le (by omega)]
    have k1 := hk (marksOf true true big ls)
    have k2 := hk (marksOf false false big ls)
    simp (maxSteps := 4000000) only [↓wpA_H, ↓wpH_skip, ↓wpH_ret, ↓wpH_seq, ↓wpH_cond, ↓wpH_region, ↓iselH_false, bselH_false, runH_nil, runH_cons, gw, gselH_plain, gselH_if, kselH_1, cselH_bool, gkind, ↓chk, justK, ↓oneK, ↓pureK, envOf, ↓thenA_normal, ↓stepEv, opnd, Pg.look, binK, intOp, dstOf, Bool.not_false, Bool.not_true, Bool.false_eq_true, Bool.true_eq_false, false_implies, implies_true, true_and, and_true, forall_const, pickC, pickV, unc, gof, mux, mergeK, condsL, valV, heapV, footV, binV, intV, cutV, mergeable, look_stripE, ofV, ofLeaf, sameK, retA, resK, tupA, subA, subQ, ptrsE, frzO, subF, subG, pickOf, frzE, frzC, frz0, frzH, Pg.freeze, List.foldl_nil, subOs, subEv, subV_succ, subM, slen, sliceL, ↓callT, callC, callV, callH, normArgs, normA, normC, resL, res8_eq, res_succ, resM, shiftR, shift1, foldInts, Op.operands, Call.operands, Array.toList_append, List.getElem?_toArray, List.getElem?_cons_succ, List.getElem?_cons_zero, Option.bind_some, Option.map_some, Option.map_none, Option.getD_some, reduceCtorEq, Nat.reduceEqDiff, Nat.reduceAdd, List.nil_append, List.append_nil, List.cons_append, List.length_nil, List.map_cons, List.map_nil, Nat.zero_add, ite_true, ite_false, Option.some.injEq, AV.int.injEq, AV.sl.injEq, Prod.mk.injEq, ne_eq, not_false_eq_true, Bool.and_self, and_self, exists_eq_left', pickOK_nil, List.length_map, cInt_dec, cBool_dec, Option.toArray_some, Option.toArray_none, List.toList_toArray, cSl_dec, cRp_dec, cFn_dec, AV.fn.injEq, lNil_dec, lOne_dec, lCons_dec, dec2_some, List.contains_nil, List.range'_zero, decL_str, C1by_ns, C1by_pre, C1by_r, C1by_H, optP_some, optV_some, optH_some, ← List.map_take, C1by_it, tk3, tk5, tk25, kKnown8, kLight, kStartsF, kEndsF, aAt, kHeard, kStarts, kEnds, kPlacesE, cAskFn_decS, cAskFn_decE, decL_pos, ht, e1, e2, w1, w2]
    have l1 : ((marksOf true true big ls).take (heardN (n.tmod 20 + 1))).length ≤ 1099511627776 := Nat.le_trans (List.length_take_le' _ _) (by omega)
    have l2 : ((marksOf false false big ls).take (heardN (n.tmod 20 + 1))).length ≤ 1099511627776 := Nat.le_trans (List.length_take_le' _ _) (by omega)
    exact ⟨hs, hft, hft, hft, hft, by omega, by omega, by decide, hft, hft, ⟨by omega, by omega⟩, ⟨k1, l1⟩, ⟨by omega, by omega⟩, k2, l2⟩
end Go.Pg
namespace Go.Pg
open Go Go.Proofs

theorem filter_drop (R : Int × Int → Int × Int → Bool) (ht : ∀ a b c, R a b = true → R b c = true → R a c = true) (hi : ∀ a, R a a = false) (T : List (Int × Int)) (hT : T.Pairwise (fun a b => R a b = true)) (p : Int × Int) (i : Nat) (q : Int × Int)
    (h : (T.filter (R p))[i]? = some q) : T.filter (R q) = (T.filter (R p)).drop (i + 1) := by
  have hq : q ∈ T.filter (R p) := List.mem_of_getElem? h
  have hpq := (List.mem_filter.1 hq).2
  have e1 : T.filter (R q) = (T.filter (R p)).filter (R q) := by
    rw [List.filter_filter]
    refine List.filter_congr fun t _ => ?_
    cases hqt : R q t with
    | true => rw [ht p q t hpq hqt]; rfl
    | false => rfl
  have hL : (T.filter (R p)).Pairwise (fun a b => R a b = true) := hT.filter _
  rw [e1]
  generalize T.filter (R p) = L at h hL
  clear hq hpq e1
  induction L generalizing i with
  | nil => simp at h
  | cons t L ih =>
    rw [List.pairwise_cons] at hL
    cases i with
    | zero =>
      have : t = q := by simpa using h
      subst this
      rw [List.filter_cons, if_neg (by rw [hi]; simp)]
      rw [show (t :: L).drop (0 + 1) = L from rfl, List.filter_eq_self]
      exact fun x hx => hL.1 x hx
    | succ i =>
      have h' : L[i]? = some q := by simpa using h
      have hqm : q ∈ L := List.mem_of_getElem? h'
      have htq := hL.1 q hqm
      have hn : R q t = false := by
        cases hh : R q t with
        | false => rfl
        | true => have := ht t q t htq hh; rw [hi] at this; cases this
      rw [List.filter_cons, if_neg (by rw [hn]; simp), List.drop_succ_cons]
      exact ih i h' hL.2

/-- Where one is after so many steps, and whether all went. -/
def stepQ (L : List (Int × Int)) (p : Int × Int) (i : Nat) : (Int × Int) × Bool := if i ≤ L.length then ((if i = 0 then p else L.getD (i - 1) (0, 0)), true) else ((0, 0), false)

theorem seq_step (F : Int × Int → List (Int × Int)) (hF : ∀ p (i : Nat) q, (F p)[i]? = some q → F q = (F p).drop (i + 1)) (p : Int × Int) (i : Nat) (h : i ≤ (F p).length) (way : Int) :
    ((nth (F (stepQ (F p) p i).1) 1 way).1.1, (nth (F (stepQ (F p) p i).1) 1 way).2) = stepQ (F p) p (i + 1) := by
  have e : F (stepQ (F p) p i).1 = (F p).drop i := by
    unfold stepQ
    rw [if_pos h]
    by_cases h0 : i = 0
    · rw [if_pos h0, h0]; rfl
    · rw [if_neg h0]
      obtain ⟨j, rfl⟩ : ∃ j, i = j + 1 := ⟨i - 1, by omega⟩
      refine hF p j _ ?_
      rw [show j + 1 - 1 = j by omega, List.getD_eq_getElem?_getD, List.getElem?_eq_getElem (by omega)]
      rfl
  rw [e, nth_one]
  unfold stepQ
  generalize F p = L at h ⊢
  by_cases h1 : i + 1 ≤ L.length
  · rw [if_pos h1, if_neg (by omega), List.drop_eq_getElem_cons (by omega)]
    simp [mTo, List.getD_eq_getElem?_getD, List.getElem?_eq_getElem (show i < L.length by omega)]
  · rw [if_neg h1, List.drop_of_length_le (by omega)]
    rfl

theorem behind_drop (S : List (Int × Int)) (hS : S.Pairwise (fun a b => less a b = true)) (p : Int × Int) (i : Nat) (q : Int × Int) (h : (behind S p false)[i]? = some q) : behind S q false = (behind S p false).drop (i + 1) := by
  have hb : ∀ q, behind S q false = S.filter (less q) := fun q => by
    unfold behind
    exact List.filter_congr fun t _ => by simp [isBehind]
  rw [hb] at h
  rw [hb, hb]
  exact filter_drop less (fun a b c => less_trans) less_irr S hS p i q h

theorem ahead_drop (S : List (Int × Int)) (hS : S.Pairwise (fun a b => less a b = true)) (p : Int × Int) (i : Nat) (q : Int × Int) (h : (ahead S p)[i]? = some q) : ahead S q = (ahead S p).drop (i + 1) :=
  filter_drop (fun a b => less b a) (fun _ _ _ h1 h2 => less_trans h2 h1) less_irr S.reverse (by rw [List.pairwise_reverse]; exact hS) p i q h

theorem nth_stepQ (L : List (Int × Int)) (p : Int × Int) (n : Nat) (hn : 0 < n) (way : Int) : ((nth L n way).1.1, (nth L n way).2) = stepQ L p n := by
  unfold nth stepQ
  by_cases h : n ≤ L.length
  · rw [if_neg (by omega), if_pos h, if_neg (by omega), show ((n : Int) - 1).toNat = n - 1 by omega]
    rfl
  · rw [if_pos (by omega), if_neg h]
    rfl
end Go.Pg
namespace Go.Pg
open Go Go.Proofs

theorem may_one {ls : Ls} {q : Int × Int} (h : place ls q.1 q.2 = true) {n : Int} (hn : 1 ≤ n) : may ls q n = true := by
  unfold may
  rw [h, Bool.true_and, decide_eq_true_eq]
  omega
theorem mark_place {st e big : Bool} {ls : Ls} {q : Int × Int} (h : q ∈ marksOf st e big ls) : place ls q.1 q.2 = true := by
  obtain ⟨h1, h2, h3, h4⟩ := (marksTo_sorted _ _ _ _).2 q h
  unfold place
  simp only [Bool.and_eq_true, decide_eq_true_eq]
  omega
theorem stepQ_place {ls : Ls} {L : List (Int × Int)} {p : Int × Int} (hL : ∀ q ∈ L, place ls q.1 q.2 = true) (hp : place ls p.1 p.2 = true) (i : Nat) (h : (stepQ L p i).2 = true) : place ls (stepQ L p i).1.1 (stepQ L p i).1.2 = true := by
  unfold stepQ at h ⊢
  split at h
  · next hi =>
    rw [if_pos hi]
    by_cases h0 : i = 0
    · rw [if_pos h0]; exact hp
    · rw [if_neg h0]
      refine hL _ ?_
      rw [List.getD_eq_getElem?_getD, List.getElem?_eq_getElem (by omega)]
      exact List.getElem_mem _
  · cases h
theorem stepQ_le {L : List (Int × Int)} {p : Int × Int} {i : Nat} (h : (stepQ L p i).2 = true) : i ≤ L.length := by
  unfold stepQ at h
  split at h
  · assumption
  · cases h
theorem stepQ_stop {L : List (Int × Int)} {p : Int × Int} {i : Nat} (h : (stepQ L p i).2 = false) : stepQ L p (i + 1) = stepQ L p i := by
  unfold stepQ at h ⊢
  split at h
  · cases h
  · next hi => rw [if_neg hi, if_neg (by omega)]
end Go.Pg
