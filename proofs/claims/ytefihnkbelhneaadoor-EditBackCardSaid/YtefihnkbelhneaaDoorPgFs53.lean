/- Lines are shifted. -/
import Derived.Test.YtefihnkbelhneaaDoorPgFs46
import Derived.Test.YtefihnkbelhneaaDoorPgFs22
import Derived.Test.YtefihnkbelhneaaDoorPgFs23
namespace Go.Pg
open Go Go.Proofs

/-- At most so many blanks ahead are taken away. -/
def dropB : Nat → List UInt8 → List UInt8
  | k + 1, b :: s => if blank b = true then dropB k s else b :: s
  | _, s => s

def shiftS (s : List UInt8) (n : Int) (left : Bool) : List UInt8 := if left = true then dropB (n * 4).toNat s else if (s == []) = true then s else List.replicate (n * 4).toNat 32 ++ s

theorem dropB_nil (k : Nat) : dropB k [] = [] := by cases k <;> rfl
theorem dropB_zero (s : List UInt8) : dropB 0 s = s := by cases s <;> rfl
theorem dropB_step (k : Nat) (s : List UInt8) (h : s ≠ []) : ((cls (s.getD 0 0).toNat true == 0) = true → dropB (k + 1) s = dropB k (s.drop 1)) ∧ ((cls (s.getD 0 0).toNat true == 0) = false → dropB k s = s ∧ dropB (k + 1) s = s) := by
  cases s with
  | nil => exact absurd rfl h
  | cons b s =>
    have hb : (cls (b.toNat : Int) true == 0) = blank b := by
      unfold cls blank
      have h1 : ((b.toNat : Int) == 32) = (b == 32) := by
        rw [Bool.eq_iff_iff, beq_iff_eq, beq_iff_eq]
        exact ⟨fun h => UInt8.toNat_inj.1 (by show _ = 32; omega), fun h => by subst h; rfl⟩
      have h2 : ((b.toNat : Int) == 9) = (b == 9) := by
        rw [Bool.eq_iff_iff, beq_iff_eq, beq_iff_eq]
        exact ⟨fun h => UInt8.toNat_inj.1 (by show _ = 9; omega), fun h => by subst h; rfl⟩
      rw [h1, h2]
      cases (b == 32 || b == 9) <;> simp
    simp only [List.getD_cons_zero]
    rw [hb]
    refine ⟨fun h => by simp [dropB, h], fun h => ⟨?_, by simp [dropB, h]⟩⟩
    cases k with
    | zero => rfl
    | succ k => simp [dropB, h]

set_option maxRecDepth 20000 in
set_option maxHeartbeats 4000000 in
theorem calls_shifted (s : List UInt8) (n : Int) (left : Bool) (hs : s.length ≤ 1099511627776) (hn : 0 ≤ n ∧ n ≤ 1048576) :
    CallsR Tryd.prog 48 [.str s, .int .i64 n, .bool left] [] (.str (shiftS s n left)) [] := by
  have w1 : IntKind.i64.wrap (n * 4) = n * 4 := wrap64 (by omega) (by omega)
  refine callsR_of (mrg := true) (dyn := []) (CtrOK.cons ok_Repeat (CtrOK.cons ok_Of (CtrOK.nil _))) mixed Tryd.func48 rfl (by simp [Tryd.ntmps48]) (by kernel_rfl) ?_
  rw [show Tryd.f48.results.toList = [.tmp 6] from by kernel_rfl]
  cases left with
  | false =>
    simp (maxSteps := 4000000) only [↓wpA_H, ↓wpH_skip, ↓wpH_ret, ↓wpH_seq, ↓wpH_cond, ↓wpH_region, ↓iselH_true, iselH_if, bselH_false, runH_nil, runH_cons, gw, gselH_plain, cselH_bool, ↓chk, justK, ↓oneK, ↓pureK, envOf, ↓thenA_normal, ↓thenA_ret, ↓stepEv, opnd, Pg.look, binK, intOp, strOp, Bool.not_false, Bool.false_eq_true, false_implies, implies_true, true_and, and_true, valV, heapV, footV, binV, intV, strV, ofV, ofLeaf, retA, resK, tupA, subA, subQ, ptrsE, frzO, subF, subG, pickOf, frzE, frzC, frz0, frzH, Pg.freeze, List.foldl_nil, subOs, subEv, subV_succ, subM, ↓callT, callC, callV, callH, normArgs, normA, resL, res8_eq, res_succ, resM, shiftR, shift1, reduceCtorEq, Nat.reduceEqDiff, Nat.reduceAdd, List.nil_append, List.append_nil, List.length_nil, List.map_cons, List.map_nil, Nat.zero_add, ite_true, ite_false, Prod.mk.injEq, and_self, pickOK_nil, cInt_dec, cStr_dec, lOne_dec, lCons_dec, dec2_some, List.contains_nil, List.range'_zero, C1by_ns, C1by_pre, C1by_r, C1by_H, optP_some, optV_some, optH_some, kRepeat, kOf, w1, shiftS]
    exact ⟨fun h => by rw [if_pos h], fun h => ⟨by omega, by rw [List.length_replicate]; omega, by rw [if_neg (by rw [h]; decide)]⟩⟩
  | true =>
    simp (maxSteps := 4000000) only [↓wpA_H, ↓wpH_skip, ↓wpH_ret, ↓wpH_seq, ↓wpH_cond, ↓wpH_block, ↓wpH_loop, ↓wpH_region, ↓iselH_false, iselH_if, bselH_false, runH_nil, runH_cons, gw, gselH_plain, cselH_bool, ↓chk, justK, ↓oneK, ↓pureK, envOf, ↓thenA_normal, ↓thenA_ret, ↓stepEv, opnd, Pg.look, binK, strOp, Bool.not_true, Bool.false_eq_true, implies_true, true_and, and_true, valV, heapV, footV, binV, strV, ofV, ofLeaf, retA, resK, tupA, subA, subQ, ptrsE, frzO, subF, subG, pickOf, frzE, frzC, frz0, frzH, Pg.freeze, List.foldl_nil, subOs, subEv, subV_succ, subM, reduceCtorEq, Nat.reduceEqDiff, Nat.reduceAdd, List.append_nil, List.length_nil, Nat.zero_add, ite_true, ite_false, and_self, pickOK_nil, List.contains_nil, kRepeat, kOf, shiftS]
    refine ⟨fun h => by rw [eq_of_beq h, dropB_nil], fun h => ?_⟩
    refine loopH_intro (α := Nat) (fun i => ([(0, .str s), (1, .int .i64 n), (2, .bool true), (7, .int .i64 i)], [])) (fun i => i ≤ s.length ∧ (i : Int) ≤ n * 4 ∧ dropB ((n * 4).toNat - i) (s.drop i) = dropB (n * 4).toNat s) (fun i => s.length - i) 0 ⟨by omega, by omega, by simp⟩ ?_ ?_
    · simp (maxSteps := 4000000) only [Pg.look, subA, subQ, ptrsE, frzO, subF, subG, pickOf, frzE, frzC, frz0, frzH, Pg.freeze, List.foldl_nil, subOs, subEv, subV_succ, subM, reduceCtorEq, Nat.reduceEqDiff, List.append_nil, ite_true, ite_false, and_self, pickOK_nil, Int.cast_ofNat_Int]
      all_goals rfl
    intro i hi
    obtain ⟨h1, h2, h3⟩ := hi
    simp (maxSteps := 4000000) only [↓wpA_H, ↓wpH_skip, ↓wpH_ret, ↓wpH_exit, ↓wpH_seq, ↓wpH_cond, ↓wpH_block, ↓wpH_region, iselH_if, bselH_false, runH_nil, runH_cons, gw, gselH_plain, gselH_if, kselH_1, cselH_bool, gkind, ↓chk, justK, ↓oneK, ↓pureK, ↓thenA_normal, ↓thenA_exit, ↓blockA_normal, ↓blockA_exit, ↓stepEv, opnd, Pg.look, binK, intOp, dstOf, Bool.false_eq_true, implies_true, imp_self, true_and, and_true, pickC, pickV, unc, gof, mux, mergeK, condsL, valV, heapV, footV, binV, intV, cutV, mergeable, look_stripE, ofV, ofLeaf, sameK, retA, resK, tupA, subA, subQ, ptrsE, frzO, subF, subG, pickOf, frzE, frzC, frz0, frzH, Pg.freeze, List.foldl_nil, subOs, subEv, subV_succ, subM, sliceS, ↓callT, callC, callV, normArgs, normA, resL, res8_eq, res_succ, resM, shiftR, shift1, Op.operands, Call.operands, Array.toList_append, List.getElem?_toArray, List.getElem?_cons_succ, List.getElem?_cons_zero, Option.bind_some, Option.map_some, Option.map_none, reduceCtorEq, Nat.reduceEqDiff, List.nil_append, List.append_nil, List.cons_append, List.length_nil, List.map_cons, List.map_nil, Nat.zero_add, ite_true, ite_false, Bool.if_false_right, Bool.decide_eq_true, decide_eq_true_eq, decide_eq_false_iff_not, Int.not_lt, Bool.and_self, and_self, pickOK_nil, cInt_dec, cBool_dec, List.toList_toArray, lOne_dec, lCons_dec, dec2_some, List.contains_nil, List.range'_zero, C1by_ns, C1by_pre, C1by_r, C1by_H, optP_some, optV_some, optH_some, Int.toNat_natCast, tk9, kRepeat, kOf, w1]
    have hsh : shiftS s n true = dropB (n * 4).toNat s := rfl
    rw [hsh]
    have hd0 : i < s.length → (s.drop i).getD 0 0 = s.getD i 0 ∧ s.drop i ≠ [] ∧ (s.drop i).drop 1 = s.drop (i + 1) := fun hlt => by
      refine ⟨by rw [List.getD_eq_getElem?_getD, List.getElem?_drop, ← List.getD_eq_getElem?_getD]; rfl, fun e => ?_, by rw [List.drop_drop]⟩
      have := congrArg List.length e
      rw [List.length_drop] at this; simp at this; omega
    refine ⟨fun h => ⟨h, by simp only [Bool.and_eq_true, decide_eq_true_eq] at h; omega⟩, fun h => ?_, fun h => ⟨by omega, ?_⟩⟩
    · simp only [Bool.and_eq_true, decide_eq_true_eq] at h
      obtain ⟨⟨c1, c2⟩, c3⟩ := h
      obtain ⟨d1, d2, d3⟩ := hd0 (by omega)
      have hst := (dropB_step ((n * 4).toNat - (i + 1)) (s.drop i) d2).1 (by rw [d1]; exact c3)
      rw [show (n * 4).toNat - (i + 1) + 1 = (n * 4).toNat - i by omega, d3] at hst
      exact ⟨i + 1, ⟨by omega, by omega, by rw [← hst, h3]⟩, by omega, by rw [wrap64 (by omega) (by omega)]; rfl⟩
    · rw [← h3]
      by_cases c1 : i < s.length
      · by_cases c2 : (i : Int) < n * 4
        · have e1 : decide ((i : Int) < (s.length : Int)) = true := decide_eq_true (by omega)
          have e2 : decide ((i : Int) < n * 4) = true := decide_eq_true c2
          rw [e1, e2] at h
          simp only [Bool.and_self, Bool.true_and] at h
          obtain ⟨d1, d2, d3⟩ := hd0 c1
          exact ((dropB_step ((n * 4).toNat - i) (s.drop i) d2).2 (by rw [d1]; exact h)).1.symm
        · rw [show (n * 4).toNat - i = 0 by omega, dropB_zero]
      · have : s.drop i = [] := List.drop_eq_nil_of_le (by omega)
        rw [this, dropB_nil]
def kShifted : C1 := C1.by [.id, .id, .id] (lCons cStr (lCons (cInt .i64) (lOne cBool))) (fun d => d.1.length ≤ 1099511627776 ∧ 0 ≤ d.2.1 ∧ d.2.1 ≤ 1048576) (fun d => .str (shiftS d.1 d.2.1 d.2.2)) (fun _ => [])
theorem ok_shifted : C1OK Tryd.prog 48 kShifted := C1OK.by (by kernel_rfl) (fun d h => calls_shifted d.1 d.2.1 d.2.2 h.1 h.2) (fun _ => rfl) (fun _ => rfl)

set_option maxHeartbeats 4000000 in
theorem calls_Shift1 (ls : Ls) (n : Int) (left : Bool) (i : Int) (h1 : 0 ≤ i) (h2 : i < ls.length) (hs : small ls) (hn : 0 ≤ n ∧ n ≤ 1048576) :
    CallsR Tryd.prog 47 [.int .i64 i, .rp [.sl 1 (ls.map .str)], .rp [.int .i64 n], .rp [.bool left]] [] (.str (shiftS (ls.getD i.toNat []) n left)) [] := by
  refine callsR_of (mrg := true) (dyn := []) (CtrOK.cons ok_shifted (CtrOK.nil _)) mixed Tryd.func47 rfl (by simp [Tryd.ntmps47]) (by kernel_rfl) ?_
  rw [show Tryd.f47.results.toList = [.tmp 5] from by kernel_rfl]
  simp (maxSteps := 4000000) only [↓wpA_H, ↓wpH_ret, ↓wpH_seq, ↓wpH_region, bselH_false, runH_nil, runH_cons, gw, gselH_plain, ↓chk, justK, noW, ↓oneK, ↓pureK, ↓heapK, envOf, ↓thenA_normal, ↓stepEv, opnd, Pg.look, Bool.false_eq_true, implies_true, true_and, and_true, valV, heapV, footV, ofV, ofLeaf, retA, resK, tupA, subA, subQ, ptrsE, frzO, subF, subG, pickOf, frzE, frzC, frz0, frzH, Pg.freeze, List.foldl_nil, subOs, subEv, subV_succ, subM, ldCells, ↓callT, callC, callV, callH, normArgs, normA, resL, res8_eq, res_succ, resM, shiftR, shift1, AV.cells, TK.cells, List.getElem?_cons_zero, Option.getD_some, reduceCtorEq, Nat.reduceEqDiff, Nat.reduceAdd, List.append_nil, List.length_nil, List.map_cons, List.map_nil, Nat.zero_add, ite_true, ite_false, Option.some.injEq, and_self, exists_eq_left', pickOK_nil, List.length_map, cInt_dec, cBool_dec, cStr_dec, lOne_dec, lCons_dec, dec2_some, List.contains_nil, List.range'_zero, C1by_ns, C1by_pre, C1by_r, C1by_H, optP_some, optV_some, optH_some, getD_str, tk3, tk4, tk9, dz9, tk22, kShifted]
  exact ⟨⟨h1, by omega⟩, hs.2 _, hn⟩

def kEachShift : C1 := C1.by [.sl 1 [], .id, .id, .id] (lCons cStrs (lCons (cInt .i64) (lCons (cInt .i64) (lOne (cFn 47 (lCons (cRp (lOne cStrs)) (lCons (cRp (lOne (cInt .i64))) (lOne (cRp (lOne cBool))))))))))
  (fun d => small d.1 ∧ d.2.2.2.1 = d.1 ∧ 0 ≤ d.2.1 ∧ d.2.1 ≤ d.2.2.1 ∧ d.2.2.1 < d.1.length ∧ 0 ≤ d.2.2.2.2.1 ∧ d.2.2.2.2.1 ≤ 1048576)
  (fun d => aCh (d.2.1, cutL d.1 d.2.1.toNat (d.2.2.1 + 1).toNat, eachL d.2.1 d.2.2.1 (fun i => shiftS (d.1.getD i.toNat []) d.2.2.2.2.1 d.2.2.2.2.2))) (fun _ => [])
theorem ok_EachShift : C1OK Tryd.prog 42 kEachShift := C1OK.by (by kernel_rfl) (fun d h => by
  obtain ⟨ls, f, t, ls2, n, left⟩ := d
  obtain ⟨h1, h2, h3, h4, h5, h6, h7⟩ := h
  simp only at h1 h2 h3 h4 h5 h6 h7
  subst h2
  exact calls_each ls2 f t _ _ (fun i => shiftS (ls2.getD i.toNat []) n left) h3 (by omega) h5 h1.1 (by simp) (.cons (.cons (.cons .nil)))
    (kLineFn_ok (by kernel_rfl) (fun i a b => calls_Shift1 ls2 n left i (by omega) (by omega) h1 ⟨h6, h7⟩))) (fun _ => rfl) (fun _ => rfl)

def shift (ls : Ls) (f t n : Int) (left : Bool) : Ch × Bool :=
  if (decide (n < 1) || decide (f < 0) || decide (f > t) || decide (t ≥ ls.length)) = true then ((0, [], []), false)
  else ((f, cutL ls f.toNat (t + 1).toNat, eachL f t (fun i => shiftS (ls.getD i.toNat []) (min n 1024) left)), true)

set_option maxRecDepth 20000 in
set_option maxHeartbeats 4000000 in
theorem calls_Shift (ls : Ls) (f t n : Int) (left : Bool) (hs : small ls) :
    CallsR Tryd.prog 26 [.sl 1 (ls.map .str), .int .i64 f, .int .i64 t, .int .i64 n, .bool left] [] (.tuple [aCh (shift ls f t n left).1, .bool (shift ls f t n left).2]) [] := by
  refine callsR_of (mrg := true) (dyn := []) (CtrOK.cons ok_EachShift (CtrOK.nil _)) mixed Tryd.func26 rfl (by simp [Tryd.ntmps26]) (by kernel_rfl) ?_
  rw [show Tryd.f26.results.toList = [.cell 10 31, .tmp 11] from by kernel_rfl]
  cases hc : (decide (n < 1) || decide (f < 0) || decide (f > t) || decide (t ≥ (ls.length : Int))) with
  | true =>
    simp (maxSteps := 4000000) only [↓wpA_H, ↓wpH_ret, ↓wpH_seq, ↓wpH_cond, ↓wpH_region, ↓iselH_true, bselH_false, runH_nil, runH_cons, gw, gselH_plain, gselH_if, kselH_1, cselH_bool, gkind, ↓chk, justK, noW, ↓oneK, ↓pureK, ↓heapK, envOf, ↓thenA_normal, ↓thenA_ret, ↓stepEv, opnd, Pg.look, binK, intOp, dstOf, Bool.false_eq_true, implies_true, imp_self, true_and, and_true, pickC, pickV, unc, gof, mux, mergeK, condsL, valV, heapV, footV, binV, intV, mergeable, look_stripE, ofV, ofLeaf, sameK, retA, resK, tupA, subA, subQ, ptrsE, frzO, subF, subG, pickOf, frzE, frzC, frzL, frz0, frzH, Pg.freeze, List.foldl_nil, subOs, subEv, subV_succ, subM, subL, slen, ldCells, objAt, res_succ, resM, AV.cells, TK.cells, AV.definite, AV.leaf, AV.leafy, putCells, lay, buildL, Op.operands, Call.operands, Array.toList_append, List.getElem?_toArray, List.getElem?_cons_succ, List.getElem?_cons_zero, Option.bind_some, Option.getD_some, reduceCtorEq, Nat.reduceEqDiff, Nat.reduceAdd, List.nil_append, List.append_nil, List.cons_append, List.length_cons, List.length_nil, List.map_nil, List.set_cons_zero, List.set_cons_succ, Nat.zero_add, ite_true, ite_false, Option.some.injEq, Option.isSome_some, AV.int.injEq, AV.agg.injEq, Bool.if_true_left, Bool.decide_eq_true, decide_eq_true_eq, decide_eq_false_iff_not, Int.not_lt, List.all_cons, List.all_nil, Bool.and_self, and_self, Bool.not_eq_true', exists_eq_left', pickOK_nil, List.length_map, List.toList_toArray, List.contains_nil, List.getD_cons_zero, cutL, List.drop_zero, List.drop_succ_cons, List.take_succ_cons, List.take_zero, Nat.sub_zero, Nat.le_refl, List.drop_nil, List.take_nil, Nat.zero_lt_succ, tk3, dz3, tk22, dz22, tk31, tz31, dz31, kEachShift, aCh, hc, shift]
  | false =>
    have hc2 := hc
    simp only [Bool.or_eq_false_iff, decide_eq_false_iff_not] at hc2
    simp (maxSteps := 4000000) only [↓wpA_H, ↓wpH_skip, ↓wpH_ret, ↓wpH_seq, ↓wpH_cond, ↓wpH_region, ↓iselH_false, bselH_false, runH_nil, runH_cons, gw, gselH_plain, gselH_if, kselH_1, cselH_bool, gkind, ↓chk, justK, noW, ↓oneK, ↓pureK, ↓heapK, envOf, ↓thenA_normal, ↓stepEv, opnd, Pg.look, binK, intOp, dstOf, Bool.false_eq_true, implies_true, imp_self, true_and, and_true, pickC, pickV, unc, gof, mux, mergeK, condsL, valV, heapV, footV, binV, intV, mergeable, look_stripE, ofV, ofLeaf, sameK, retA, resK, tupA, subA, subQ, ptrsE, frzO, subF, subG, pickOf, frzE, frzC, frzL, frz0, frzH, Pg.freeze, List.foldl_nil, List.foldl_cons, subOs, subEv, subV_succ, subM, subL, slen, ldCells, objAt, ↓callT, callC, callV, callH, normArgs, normA, normC, resL, res8_eq, res_succ, resM, shiftR, shift1, AV.cells, TK.cells, AV.definite, AV.leaf, AV.leafy, putCells, lay, foldInts, frzAt, Op.operands, Call.operands, Array.toList_append, List.getElem?_toArray, List.getElem?_cons_succ, List.getElem?_cons_zero, Option.bind_some, Option.getD_some, reduceCtorEq, Nat.reduceEqDiff, Nat.reduceAdd, List.nil_append, List.append_nil, List.cons_append, List.length_cons, List.length_nil, List.map_cons, List.map_nil, List.set_cons_zero, List.set_cons_succ, Nat.zero_add, ite_true, ite_false, Option.some.injEq, AV.int.injEq, Bool.if_true_left, Bool.decide_eq_true, decide_eq_true_eq, decide_eq_false_iff_not, Int.not_lt, List.all_cons, List.all_nil, Bool.and_self, and_self, Bool.not_eq_true', exists_eq_left', pickOK_nil, List.length_map, cInt_dec, cBool_dec, List.toList_toArray, cSl_dec, cRp_dec, cFn_dec, lOne_dec, lCons_dec, dec2_some, List.contains_nil, List.range'_zero, decL_str, C1by_ns, C1by_pre, C1by_r, C1by_H, optP_some, optV_some, optH_some, List.getD_cons_zero, cutL, List.drop_zero, List.drop_succ_cons, List.take_succ_cons, List.take_zero, Nat.sub_zero, Nat.le_refl, List.drop_nil, List.take_nil, Nat.zero_lt_succ, tk3, dz3, tk22, dz22, tk31, tz31, dz31, kEachShift, aCh, hc, shift]
    exact ⟨hs, by omega, by omega, by omega, by omega, by omega⟩
def kShift : C1 := C1.by [.sl 1 [], .id, .id, .id, .id] (lCons cStrs (lCons (cInt .i64) (lCons (cInt .i64) (lCons (cInt .i64) (lOne cBool))))) (fun d => small d.1) (fun d => .tuple [aCh (shift d.1 d.2.1 d.2.2.1 d.2.2.2.1 d.2.2.2.2).1, .bool (shift d.1 d.2.1 d.2.2.1 d.2.2.2.1 d.2.2.2.2).2]) (fun _ => [])
theorem ok_Shift : C1OK Tryd.prog 26 kShift := C1OK.by (by kernel_rfl) (fun d h => calls_Shift d.1 d.2.1 d.2.2.1 d.2.2.2.1 d.2.2.2.2 h) (fun _ => rfl) (fun _ => rfl)
end Go.Pg
