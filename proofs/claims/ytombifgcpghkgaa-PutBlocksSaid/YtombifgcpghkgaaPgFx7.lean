/- Lines are shifted. Bytes of ranges are turned; letters' case. Plain laws of what is shifted, or cased, twice. -/
import Derived.Test.YtombifgcpghkgaaPgFx2
import Derived.Test.YtombifgcpghkgaaPgFx4
import Derived.Test.YtombifgcpghkgaaPgFx3
namespace Go.Pg
open Go Go.Proofs

/-- At most so many blanks ahead are taken away. -/
def dropB : Nat → List UInt8 → List UInt8
  | k + 1, b :: s => if blank b = true then dropB k s else b :: s
  | _, s => s

def shiftS (s : List UInt8) (n : Int) (left : Bool) : List UInt8 := if left = true then dropB (n * 4).toNat s else if (s == []) = true then s else List.replicate (n * 4).toNat 32 ++ s

theorem dropB_nil (k : Nat) : dropB k [] = [] := by cases k <;> rfl
theorem dropB_zero (s : List UInt8) : dropB 0 s = s := by cases s <;> rfl
theorem dropB_step (k : Nat) (s : List UInt8) (h : s ≠ []) : ((cls (s.getD 0 0).toNat true == 0) = true → dropB (k + 1) s = dropB k (s.drop 1)) ∧ ((cls (s.getD 0 0).toNat true == 0) = false → dropB k s = s ∧ dropB (k + 1) s = s) := by
  cases s with
  | nil => exact absurd rfl h
  | cons b s =>
    have hb : (cls (b.toNat : Int) true == 0) = blank b := by
      unfold cls blank
      have h1 : ((b.toNat : Int) == 32) = (b == 32) := by
        rw [Bool.eq_iff_iff, beq_iff_eq, beq_iff_eq]
        exact ⟨fun h => UInt8.toNat_inj.1 (by show _ = 32; omega), fun h => by subst h; rfl⟩
      have h2 : ((b.toNat : Int) == 9) = (b == 9) := by
        rw [Bool.eq_iff_iff, beq_iff_eq, beq_iff_eq]
        exact ⟨fun h => UInt8.toNat_inj.1 (by show _ = 9; omega), fun h => by subst h; rfl⟩
      rw [h1, h2]
      cases (b == 32 || b == 9) <;> simp
    simp only [List.getD_cons_zero]
    rw [hb]
    refine ⟨fun h => by simp [dropB, h], fun h => ⟨?_, by simp [dropB, h]⟩⟩
    cases k with
    | zero => rfl
    | succ k => simp [dropB, h]

set_option maxRecDepth 20000 in
set_option maxHeartbeats 4000000 in
theorem calls_shifted (s : List UInt8) (n : Int) (left : Bool) (hs : s.length ≤ 1099511627776) (hn : 0 ≤ n ∧ n ≤ 1048576) :
    CallsR Try.prog 64 [.str s, .int .i64 n, .bool left] [] (.str (shiftS s n left)) [] := by
  have w1 : IntKind.i64.wrap (n * 4) = n * 4 := wrap64 (by omega) (by omega)
  refine callsR_of (mrg := true) (dyn := []) (CtrOK.cons ok_Repeat (CtrOK.cons ok_Of (CtrOK.nil _))) mixed Try.func64 rfl (by simp [Try.ntmps64]) (by kernel_rfl) ?_
  rw [show Try.f64.results.toList = [.tmp 6] from by kernel_rfl]
  cases left with
  | false =>
    simp (maxSteps := 4000000) only [↓wpA_H, ↓wpH_skip, ↓wpH_ret, ↓wpH_seq, ↓wpH_cond, ↓wpH_region, ↓iselH_true, iselH_if, bselH_false, runH_nil, runH_cons, gw, gselH_plain, cselH_bool, ↓chk, justK, ↓oneK, ↓pureK, envOf, ↓thenA_normal, ↓thenA_ret, ↓stepEv, opnd, Pg.look, binK, intOp, strOp, Bool.not_false, Bool.false_eq_true, false_implies, implies_true, true_and, and_true, valV, heapV, footV, binV, intV, strV, ofV, ofLeaf, retA, resK, tupA, subA, subQ, ptrsE, frzO, subF, subG, pickOf, frzE, frzC, frz0, frzH, Pg.freeze, List.foldl_nil, subOs, subEv, subV_succ, subM, ↓callT, callC, callV, callH, normArgs, normA, resL, res8_eq, res_succ, resM, shiftR, shift1, reduceCtorEq, Nat.reduceEqDiff, Nat.reduceAdd, List.nil_append, List.append_nil, List.length_nil, List.map_cons, List.map_nil, Nat.zero_add, ite_true, ite_false, Prod.mk.injEq, and_self, pickOK_nil, cInt_dec, cStr_dec, lOne_dec, lCons_dec, dec2_some, List.contains_nil, List.range'_zero, C1by_ns, C1by_pre, C1by_r, C1by_H, optP_some, optV_some, optH_some, kRepeat, kOf, w1, shiftS]
    exact ⟨fun h => by rw [if_pos h], fun h => ⟨by omega, by rw [List.length_replicate]; omega, by rw [if_neg (by rw [h]; decide)]⟩⟩
  | true =>
    simp (maxSteps := 4000000) only [↓wpA_H, ↓wpH_skip, ↓wpH_ret, ↓wpH_seq, ↓wpH_cond, ↓wpH_block, ↓wpH_loop, ↓wpH_region, ↓iselH_false, iselH_if, bselH_false, runH_nil, runH_cons, gw, gselH_plain, cselH_bool, ↓chk, justK, ↓oneK, ↓pureK, envOf, ↓thenA_normal, ↓thenA_ret, ↓stepEv, opnd, Pg.look, binK, strOp, Bool.not_true, Bool.false_eq_true, implies_true, true_and, and_true, valV, heapV, footV, binV, strV, ofV, ofLeaf, retA, resK, tupA, subA, subQ, ptrsE, frzO, subF, subG, pickOf, frzE, frzC, frz0, frzH, Pg.freeze, List.foldl_nil, subOs, subEv, subV_succ, subM, reduceCtorEq, Nat.reduceEqDiff, Nat.reduceAdd, List.append_nil, List.length_nil, Nat.zero_add, ite_true, ite_false, and_self, pickOK_nil, List.contains_nil, kRepeat, kOf, shiftS]
    refine ⟨fun h => by rw [eq_of_beq h, dropB_nil], fun h => ?_⟩
    refine loopH_intro (α := Nat) (fun i => ([(0, .str s), (1, .int .i64 n), (2, .bool true), (7, .int .i64 i)], [])) (fun i => i ≤ s.length ∧ (i : Int) ≤ n * 4 ∧ dropB ((n * 4).toNat - i) (s.drop i) = dropB (n * 4).toNat s) (fun i => s.length - i) 0 ⟨by omega, by omega, by simp⟩ ?_ ?_
    · simp (maxSteps := 4000000) only [Pg.look, subA, subQ, ptrsE, frzO, subF, subG, pickOf, frzE, frzC, frz0, frzH, Pg.freeze, List.foldl_nil, subOs, subEv, subV_succ, subM, reduceCtorEq, Nat.reduceEqDiff, List.append_nil, ite_true, ite_false, and_self, pickOK_nil, Int.cast_ofNat_Int]
      all_goals rfl
    intro i hi
    obtain ⟨h1, h2, h3⟩ := hi
    simp (maxSteps := 4000000) only [↓wpA_H, ↓wpH_skip, ↓wpH_ret, ↓wpH_exit, ↓wpH_seq, ↓wpH_cond, ↓wpH_block, ↓wpH_region, iselH_if, bselH_false, runH_nil, runH_cons, gw, gselH_plain, gselH_if, kselH_1, cselH_bool, gkind, ↓chk, justK, ↓oneK, ↓pureK, ↓thenA_normal, ↓thenA_exit, ↓blockA_normal, ↓blockA_exit, ↓stepEv, opnd, Pg.look, binK, intOp, dstOf, Bool.false_eq_true, implies_true, imp_self, true_and, and_true, pickC, pickV, unc, gof, mux, mergeK, condsL, valV, heapV, footV, binV, intV, cutV, mergeable, look_stripE, ofV, ofLeaf, sameK, retA, resK, tupA, subA, subQ, ptrsE, frzO, subF, subG, pickOf, frzE, frzC, frz0, frzH, Pg.freeze, List.foldl_nil, subOs, subEv, subV_succ, subM, sliceS, ↓callT, callC, callV, normArgs, normA, resL, res8_eq, res_succ, resM, shiftR, shift1, Op.operands, Call.operands, Array.toList_append, List.getElem?_toArray, List.getElem?_cons_succ, List.getElem?_cons_zero, Option.bind_some, Option.map_some, Option.map_none, reduceCtorEq, Nat.reduceEqDiff, List.nil_append, List.append_nil, List.cons_append, List.length_nil, List.map_cons, List.map_nil, Nat.zero_add, ite_true, ite_false, Bool.if_false_right, Bool.decide_eq_true, decide_eq_true_eq, decide_eq_false_iff_not, Int.not_lt, Bool.and_self, and_self, pickOK_nil, cInt_dec, cBool_dec, List.toList_toArray, lOne_dec, lCons_dec, dec2_some, List.contains_nil, List.range'_zero, C1by_ns, C1by_pre, C1by_r, C1by_H, optP_some, optV_some, optH_some, Int.toNat_natCast, tk9, kRepeat, kOf, w1]
    have hsh : shiftS s n true = dropB (n * 4).toNat s := rfl
    rw [hsh]
    have hd0 : i < s.length → (s.drop i).getD 0 0 = s.getD i 0 ∧ s.drop i ≠ [] ∧ (s.drop i).drop 1 = s.drop (i + 1) := fun hlt => by
      refine ⟨by rw [List.getD_eq_getElem?_getD, List.getElem?_drop, ← List.getD_eq_getElem?_getD]; rfl, fun e => ?_, by rw [List.drop_drop]⟩
      have := congrArg List.length e
      rw [List.length_drop] at this; simp at this; omega
    refine ⟨fun h => ⟨h, by simp only [Bool.and_eq_true, decide_eq_true_eq] at h; omega⟩, fun h => ?_, fun h => ⟨by omega, ?_⟩⟩
    · simp only [Bool.and_eq_true, decide_eq_true_eq] at h
      obtain ⟨⟨c1, c2⟩, c3⟩ := h
      obtain ⟨d1, d2, d3⟩ := hd0 (by omega)
      have hst := (dropB_step ((n * 4).toNat - (i + 1)) (s.drop i) d2).1 (by rw [d1]; exact c3)
      rw [show (n * 4).toNat - (i + 1) + 1 = (n * 4).toNat - i by omega, d3] at hst
      exact ⟨i + 1, ⟨by omega, by omega, by rw [← hst, h3]⟩, by omega, by rw [wrap64 (by omega) (by omega)]; rfl⟩
    · rw [← h3]
      by_cases c1 : i < s.length
      · by_cases c2 : (i : Int) < n * 4
        · have e1 : decide ((i : Int) < (s.length : Int)) = true := decide_eq_true (by omega)
          have e2 : decide ((i : Int) < n * 4) = true := decide_eq_true c2
          rw [e1, e2] at h
          simp only [Bool.and_self, Bool.true_and] at h
          obtain ⟨d1, d2, d3⟩ := hd0 c1
          exact ((dropB_step ((n * 4).toNat - i) (s.drop i) d2).2 (by rw [d1]; exact h)).1.symm
        · rw [show (n * 4).toNat - i = 0 by omega, dropB_zero]
      · have : s.drop i = [] := List.drop_eq_nil_of_le (by omega)
        rw [this, dropB_nil]
def kShifted : C1 := C1.by [.id, .id, .id] (lCons cStr (lCons (cInt .i64) (lOne cBool))) (fun d => d.1.length ≤ 1099511627776 ∧ 0 ≤ d.2.1 ∧ d.2.1 ≤ 1048576) (fun d => .str (shiftS d.1 d.2.1 d.2.2)) (fun _ => [])
theorem ok_shifted : C1OK Try.prog 64 kShifted := C1OK.by (by kernel_rfl) (fun d h => calls_shifted d.1 d.2.1 d.2.2 h.1 h.2) (fun _ => rfl) (fun _ => rfl)

set_option maxHeartbeats 4000000 in
theorem calls_Shift1 (ls : Ls) (n : Int) (left : Bool) (i : Int) (h1 : 0 ≤ i) (h2 : i < ls.length) (hs : small ls) (hn : 0 ≤ n ∧ n ≤ 1048576) :
    CallsR Try.prog 63 [.int .i64 i, .rp [.sl 1 (ls.map .str)], .rp [.int .i64 n], .rp [.bool left]] [] (.str (shiftS (ls.getD i.toNat []) n left)) [] := by
  refine callsR_of (mrg := true) (dyn := []) (CtrOK.cons ok_shifted (CtrOK.nil _)) mixed Try.func63 rfl (by simp [Try.ntmps63]) (by kernel_rfl) ?_
  rw [show Try.f63.results.toList = [.tmp 5] from by kernel_rfl]
  simp (maxSteps := 4000000) only [↓wpA_H, ↓wpH_ret, ↓wpH_seq, ↓wpH_region, bselH_false, runH_nil, runH_cons, gw, gselH_plain, ↓chk, justK, noW, ↓oneK, ↓pureK, ↓heapK, envOf, ↓thenA_normal, ↓stepEv, opnd, Pg.look, Bool.false_eq_true, implies_true, true_and, and_true, valV, heapV, footV, ofV, ofLeaf, retA, resK, tupA, subA, subQ, ptrsE, frzO, subF, subG, pickOf, frzE, frzC, frz0, frzH, Pg.freeze, List.foldl_nil, subOs, subEv, subV_succ, subM, ldCells, ↓callT, callC, callV, callH, normArgs, normA, resL, res8_eq, res_succ, resM, shiftR, shift1, AV.cells, TK.cells, List.getElem?_cons_zero, Option.getD_some, reduceCtorEq, Nat.reduceEqDiff, Nat.reduceAdd, List.append_nil, List.length_nil, List.map_cons, List.map_nil, Nat.zero_add, ite_true, ite_false, Option.some.injEq, and_self, exists_eq_left', pickOK_nil, List.length_map, cInt_dec, cBool_dec, cStr_dec, lOne_dec, lCons_dec, dec2_some, List.contains_nil, List.range'_zero, C1by_ns, C1by_pre, C1by_r, C1by_H, optP_some, optV_some, optH_some, getD_str, tk3, tk4, tk9, dz9, tk22, kShifted]
  exact ⟨⟨h1, by omega⟩, hs.2 _, hn⟩

def kEachShift : C1 := C1.by [.sl 1 [], .id, .id, .id] (lCons cStrs (lCons (cInt .i64) (lCons (cInt .i64) (lOne (cFn 63 (lCons (cRp (lOne cStrs)) (lCons (cRp (lOne (cInt .i64))) (lOne (cRp (lOne cBool))))))))))
  (fun d => small d.1 ∧ d.2.2.2.1 = d.1 ∧ 0 ≤ d.2.1 ∧ d.2.1 ≤ d.2.2.1 ∧ d.2.2.1 < d.1.length ∧ 0 ≤ d.2.2.2.2.1 ∧ d.2.2.2.2.1 ≤ 1048576)
  (fun d => aCh (d.2.1, cutL d.1 d.2.1.toNat (d.2.2.1 + 1).toNat, eachL d.2.1 d.2.2.1 (fun i => shiftS (d.1.getD i.toNat []) d.2.2.2.2.1 d.2.2.2.2.2))) (fun _ => [])
theorem ok_EachShift : C1OK Try.prog 61 kEachShift := C1OK.by (by kernel_rfl) (fun d h => by
  obtain ⟨ls, f, t, ls2, n, left⟩ := d
  obtain ⟨h1, h2, h3, h4, h5, h6, h7⟩ := h
  simp only at h1 h2 h3 h4 h5 h6 h7
  subst h2
  exact calls_each ls2 f t _ _ (fun i => shiftS (ls2.getD i.toNat []) n left) h3 (by omega) h5 h1.1 (by simp) (.cons (.cons (.cons .nil)))
    (kLineFn_ok (by kernel_rfl) (fun i a b => calls_Shift1 ls2 n left i (by omega) (by omega) h1 ⟨h6, h7⟩))) (fun _ => rfl) (fun _ => rfl)

def shift (ls : Ls) (f t n : Int) (left : Bool) : Ch × Bool :=
  if (decide (n < 1) || decide (f < 0) || decide (f > t) || decide (t ≥ ls.length)) = true then ((0, [], []), false)
  else ((f, cutL ls f.toNat (t + 1).toNat, eachL f t (fun i => shiftS (ls.getD i.toNat []) (min n 1024) left)), true)

set_option maxRecDepth 20000 in
set_option maxHeartbeats 4000000 in
theorem calls_Shift (ls : Ls) (f t n : Int) (left : Bool) (hs : small ls) :
    CallsR Try.prog 45 [.sl 1 (ls.map .str), .int .i64 f, .int .i64 t, .int .i64 n, .bool left] [] (.tuple [aCh (shift ls f t n left).1, .bool (shift ls f t n left).2]) [] := by
  refine callsR_of (mrg := true) (dyn := []) (CtrOK.cons ok_EachShift (CtrOK.nil _)) mixed Try.func45 rfl (by simp [Try.ntmps45]) (by kernel_rfl) ?_
  rw [show Try.f45.results.toList = [.cell 10 35, .tmp 11] from by kernel_rfl]
  cases hc : (decide (n < 1) || decide (f < 0) || decide (f > t) || decide (t ≥ (ls.length : Int))) with
  | true =>
    simp (maxSteps := 4000000) only [↓wpA_H, ↓wpH_ret, ↓wpH_seq, ↓wpH_cond, ↓wpH_region, ↓iselH_true, bselH_false, runH_nil, runH_cons, gw, gselH_plain, gselH_if, kselH_1, cselH_bool, gkind, ↓chk, justK, noW, ↓oneK, ↓pureK, ↓heapK, envOf, ↓thenA_normal, ↓thenA_ret, ↓stepEv, opnd, Pg.look, binK, intOp, dstOf, Bool.false_eq_true, implies_true, imp_self, true_and, and_true, pickC, pickV, unc, gof, mux, mergeK, condsL, valV, heapV, footV, binV, intV, mergeable, look_stripE, ofV, ofLeaf, sameK, retA, resK, tupA, subA, subQ, ptrsE, frzO, subF, subG, pickOf, frzE, frzC, frzL, frz0, frzH, Pg.freeze, List.foldl_nil, subOs, subEv, subV_succ, subM, subL, slen, ldCells, objAt, res_succ, resM, AV.cells, TK.cells, AV.definite, AV.leaf, AV.leafy, putCells, lay, buildL, Op.operands, Call.operands, Array.toList_append, List.getElem?_toArray, List.getElem?_cons_succ, List.getElem?_cons_zero, Option.bind_some, Option.getD_some, reduceCtorEq, Nat.reduceEqDiff, Nat.reduceAdd, List.nil_append, List.append_nil, List.cons_append, List.length_cons, List.length_nil, List.map_nil, List.set_cons_zero, List.set_cons_succ, Nat.zero_add, ite_true, ite_false, Option.some.injEq, Option.isSome_some, AV.int.injEq, AV.agg.injEq, Bool.if_true_left, Bool.decide_eq_true, decide_eq_true_eq, decide_eq_false_iff_not, Int.not_lt, List.all_cons, List.all_nil, Bool.and_self, and_self, Bool.not_eq_true', exists_eq_left', pickOK_nil, List.length_map, List.toList_toArray, List.contains_nil, List.getD_cons_zero, cutL, List.drop_zero, List.drop_succ_cons, List.take_succ_cons, List.take_zero, Nat.sub_zero, Nat.le_refl, List.drop_nil, List.take_nil, Nat.zero_lt_succ, tk3, dz3, tk22, dz22, tk35, tz35, dz35, kEachShift, aCh, hc, shift]
  | false =>
    have hc2 := hc
    simp only [Bool.or_eq_false_iff, decide_eq_false_iff_not] at hc2
    simp (maxSteps := 4000000) only [↓wpA_H, ↓wpH_skip, ↓wpH_ret, ↓wpH_seq, ↓wpH_cond, ↓wpH_region, ↓iselH_false, bselH_false, runH_nil, runH_cons, gw, gselH_plain, gselH_if, kselH_1, cselH_bool, gkind, ↓chk, justK, noW, ↓oneK, ↓pureK, ↓heapK, envOf, ↓thenA_normal, ↓stepEv, opnd, Pg.look, binK, intOp, dstOf, Bool.false_eq_true, implies_true, imp_self, true_and, and_true, pickC, pickV, unc, gof, mux, mergeK, condsL, valV, heapV, footV, binV, intV, mergeable, look_stripE, ofV, ofLeaf, sameK, retA, resK, tupA, subA, subQ, ptrsE, frzO, subF, subG, pickOf, frzE, frzC, frzL, frz0, frzH, Pg.freeze, List.foldl_nil, List.foldl_cons, subOs, subEv, subV_succ, subM, subL, slen, ldCells, objAt, ↓callT, callC, callV, callH, normArgs, normA, normC, resL, res8_eq, res_succ, resM, shiftR, shift1, AV.cells, TK.cells, AV.definite, AV.leaf, AV.leafy, putCells, lay, foldInts, frzAt, Op.operands, Call.operands, Array.toList_append, List.getElem?_toArray, List.getElem?_cons_succ, List.getElem?_cons_zero, Option.bind_some, Option.getD_some, reduceCtorEq, Nat.reduceEqDiff, Nat.reduceAdd, List.nil_append, List.append_nil, List.cons_append, List.length_cons, List.length_nil, List.map_cons, List.map_nil, List.set_cons_zero, List.set_cons_succ, Nat.zero_add, ite_true, ite_false, Option.some.injEq, AV.int.injEq, Bool.if_true_left, Bool.decide_eq_true, decide_eq_true_eq, decide_eq_false_iff_not, Int.not_lt, List.all_cons, List.all_nil, Bool.and_self, and_self, Bool.not_eq_true', exists_eq_left', pickOK_nil, List.length_map, cInt_dec, cBool_dec, List.toList_toArray, cSl_dec, cRp_dec, cFn_dec, lOne_dec, lCons_dec, dec2_some, List.contains_nil, List.range'_zero, decL_str, C1by_ns, C1by_pre, C1by_r, C1by_H, optP_some, optV_some, optH_some, List.getD_cons_zero, cutL, List.drop_zero, List.drop_succ_cons, List.take_succ_cons, List.take_zero, Nat.sub_zero, Nat.le_refl, List.drop_nil, List.take_nil, Nat.zero_lt_succ, tk3, dz3, tk22, dz22, tk35, tz35, dz35, kEachShift, aCh, hc, shift]
    exact ⟨hs, by omega, by omega, by omega, by omega, by omega⟩
def kShift : C1 := C1.by [.sl 1 [], .id, .id, .id, .id] (lCons cStrs (lCons (cInt .i64) (lCons (cInt .i64) (lCons (cInt .i64) (lOne cBool))))) (fun d => small d.1) (fun d => .tuple [aCh (shift d.1 d.2.1 d.2.2.1 d.2.2.2.1 d.2.2.2.2).1, .bool (shift d.1 d.2.1 d.2.2.1 d.2.2.2.1 d.2.2.2.2).2]) (fun _ => [])
theorem ok_Shift : C1OK Try.prog 45 kShift := C1OK.by (by kernel_rfl) (fun d h => calls_Shift d.1 d.2.1 d.2.2.1 d.2.2.2.1 d.2.2.2.2 h) (fun _ => rfl) (fun _ => rfl)
end Go.Pg
namespace Go.Pg
open Go Go.Proofs

def kByteFn (caps : List AV) (g : UInt8 → UInt8) : C1 := ⟨[], fun l => match l with
  | .int .u8 c :: r => 0 ≤ c ∧ c < 256 ∧ r = caps
  | _ => False, fun l => match l with
  | .int .u8 c :: _ => .int .u8 (g (UInt8.ofNat c.toNat)).toNat
  | _ => .top, fun _ => []⟩

theorem kByteFn_ok {P : Program} {fid : Nat} {caps : List AV} {g : UInt8 → UInt8} (hc : cal P fid = true)
    (hg : ∀ b : UInt8, CallsR P fid (.int .u8 b.toNat :: caps) [] (.int .u8 (g b).toNat) []) : C1OK P fid (kByteFn caps g) := by
  refine ⟨hc, fun l h => ?_⟩
  simp only [kByteFn] at h ⊢
  split at h
  · next c r =>
    obtain ⟨a, b, rfl⟩ := h
    have e : c = (UInt8.ofNat c.toNat).toNat := by
      have : c.toNat < 256 := by omega
      simp [Nat.mod_eq_of_lt this]; omega
    have := hg (UInt8.ofNat c.toNat)
    rw [← e] at this
    exact ⟨this, rfl, rfl⟩
  · exact h.elim

def turnLine (g : UInt8 → UInt8) (ls : Ls) (r : Rg) (i : Int) : List UInt8 :=
  let s := ls.getD i.toNat []
  let a := (cols s.length r i).1.toNat
  let b := (cols s.length r i).2.toNat
  s.take a ++ (cutL s a b).map g ++ s.drop b

theorem turn_set (g : UInt8 → UInt8) (s : List UInt8) (a k : Nat) (h : a + k < s.length) :
    (s.take a ++ ((s.drop a).take k).map g ++ s.drop (a + k)).getD (a + k) 0 = s.getD (a + k) 0 ∧
    (s.take a ++ ((s.drop a).take k).map g ++ s.drop (a + k)).set (a + k) (g (s.getD (a + k) 0)) = s.take a ++ ((s.drop a).take (k + 1)).map g ++ s.drop (a + (k + 1)) := by
  have hl : (s.take a ++ ((s.drop a).take k).map g).length = a + k := by simp; omega
  refine ⟨?_, ?_⟩
  · rw [List.getD_eq_getElem?_getD, List.getElem?_append_right (by omega), hl, Nat.sub_self, List.getElem?_drop, ← List.getD_eq_getElem?_getD]; rfl
  · rw [List.set_append_right _ _ (by omega), hl, Nat.sub_self, List.drop_eq_getElem_cons h, List.set_cons_zero, take_succ_getD (s.drop a) k 0 (by rw [List.length_drop]; omega)]
    have e : (s.drop a).getD k 0 = s.getD (a + k) 0 := by rw [List.getD_eq_getElem?_getD, List.getElem?_drop, ← List.getD_eq_getElem?_getD]
    rw [e, List.map_append, Nat.add_assoc]
    simp

set_option maxRecDepth 20000 in
set_option maxHeartbeats 4000000 in
theorem calls_turn1 (ls : Ls) (r : Rg) (i : Int) (fid : Nat) (caps : List AV) (g : UInt8 → UInt8) (h1 : r.2.1 ≤ i) (h2 : i ≤ r.2.2.2.1) (hs : small ls) (hv : valid ls r = true)
    (hne : (42 = fid) = False) (hp : PureCaps caps) (hk : C1OK Try.prog fid (kByteFn caps g)) :
    CallsR Try.prog 77 [.int .i64 i, .rp [.sl 1 (ls.map .str)], .rp [.int .i64 r.1, .int .i64 r.2.1, .int .i64 r.2.2.1, .int .i64 r.2.2.2.1, .int .i64 r.2.2.2.2], .rp [.fn fid caps]] [] (.str (turnLine g ls r i)) [] := by
  obtain ⟨a1, a2, a3, a4, a5⟩ := cols_ok hv i h1 h2
  have hl := hs.2 i.toNat
  have ht := valid_to hv
  obtain ⟨k, f1, f2, t1, t2⟩ := r
  obtain ⟨p1, p0, p2, p3, p4⟩ := hp
  refine callsR_of (mrg := true) (dyn := []) (CtrOK.cons hk (CtrOK.cons ok_Columns (CtrOK.nil _))) mixed Try.func77 rfl (by simp [Try.ntmps77]) (by kernel_rfl) ?_
  rw [show Try.f77.results.toList = [.tmp 5] from by kernel_rfl]
  simp (maxSteps := 4000000) only [↓wpA_H, ↓wpH_seq, ↓wpH_block, ↓wpH_loop, ↓wpH_region, bselH_false, runH_nil, runH_cons, gw, gselH_plain, ↓chk, justK, noW, ↓oneK, ↓pureK, ↓heapK, envOf, ↓thenA_normal, ↓stepEv, opnd, Pg.look, Bool.false_eq_true, false_implies, implies_true, true_and, and_true, valV, heapV, footV, ofV, ofLeaf, Pg.freeze, List.foldl_nil, ldCells, ↓callT, callC, callV, callH, normArgs, normA, normC, resL, res8_eq, res_succ, resM, shiftR, shift1, AV.cells, TK.cells, List.getElem?_cons_succ, List.getElem?_cons_zero, Option.getD_some, reduceCtorEq, Nat.reduceEqDiff, Nat.reduceAdd, List.nil_append, List.append_nil, List.cons_append, List.length_cons, List.length_nil, List.map_cons, List.map_nil, Nat.zero_add, ite_true, ite_false, Option.some.injEq, Prod.mk.injEq, and_self, exists_eq_left', List.length_map, cInt_dec, cSl_dec, cAgg_dec, lOne_dec, lCons_dec, dec2_some, List.contains_nil, List.range'_zero, decL_str, C1by_ns, C1by_pre, C1by_r, C1by_H, optP_some, optV_some, optH_some, getD_str, cutL, List.drop_zero, List.take_succ_cons, Nat.sub_zero, Nat.le_refl, List.take_nil, tk5, tk9, dz9, tk22, tk29, tk53, kColumns, hne]
  simp only at ht
  refine ⟨by omega, by omega, ⟨⟨a1, a2⟩, fun i => by have := hs.2 i; omega, ht⟩, ?_⟩
  have hT : turnLine g ls (k, f1, f2, t1, t2) i = (ls.getD i.toNat []).take (cols (ls.getD i.toNat []).length (k, f1, f2, t1, t2) i).1.toNat ++ (cutL (ls.getD i.toNat []) (cols (ls.getD i.toNat []).length (k, f1, f2, t1, t2) i).1.toNat (cols (ls.getD i.toNat []).length (k, f1, f2, t1, t2) i).2.toNat).map g ++ (ls.getD i.toNat []).drop (cols (ls.getD i.toNat []).length (k, f1, f2, t1, t2) i).2.toNat := rfl
  rw [hT]
  generalize ls.getD i.toNat [] = s at a3 a4 a5 hl ⊢
  generalize hca : (cols s.length (k, f1, f2, t1, t2) i).1 = a at a3 a4 ⊢
  generalize hcb : (cols s.length (k, f1, f2, t1, t2) i).2 = b at a4 a5 ⊢
  refine loopH_intro (α := Nat) (fun j => ([(3, .rp [.fn fid caps]), (6, .own 0 1 s.length), (8, .int .i64 b), (9, .int .i64 (a + j))], [.arr 5 1 (ofBytes (s.take a.toNat ++ ((s.drop a.toNat).take j).map g ++ s.drop (a.toNat + j)))])) (fun j => a + j ≤ b) (fun j => (b - a).toNat - j) 0 (by omega) ?_ ?_
  · simp (maxSteps := 4000000) only [Pg.look, true_and, and_true, subA, subQ, ptrsE, pairsO, frzO, subF, subG, pickOf, assocN, pairsE, pairsC, pairs0, frzE, frzC, frz0, frzH, Pg.freeze, List.foldl_nil, subOs, subO, subEv, subV_succ, subM, List.getElem?_cons_zero, reduceCtorEq, Nat.reduceEqDiff, List.nil_append, List.append_nil, List.map_nil, ite_true, ite_false, and_self, pickOK_one, Int.cast_ofNat_Int, List.take_zero, Nat.add_zero, Nat.lt_irrefl]
    exact ⟨subX_eq (by simp) (pureB_bytes _), by omega⟩
  intro j hj
  have hwl : (s.take a.toNat ++ ((s.drop a.toNat).take j).map g ++ s.drop (a.toNat + j)).length = s.length := by simp; omega
  by_cases hlt : a + j < b
  · have hct : decide (a + (j : Int) < b) = true := decide_eq_true hlt
    obtain ⟨g1, g2⟩ := turn_set g s a.toNat j (by omega)
    generalize hW : s.take a.toNat ++ ((s.drop a.toNat).take j).map g ++ s.drop (a.toNat + j) = W at hwl g1 g2
    have htn : (a + (j : Int)).toNat = a.toNat + j := by omega
    have hb2 := (s.getD (a.toNat + j) 0).toNat_lt
    simp (maxSteps := 4000000) only [↓wpA_H, ↓wpH_skip, ↓wpH_seq, ↓wpH_cond, ↓wpH_block, ↓wpH_region, ↓iselH_true, bselH_false, runH_nil, runH_cons, gw, gselH_plain, cselH_bool, ↓chk, justK, noW, ↓oneK, ↓pureK, ↓heapK, ↓thenA_normal, ↓blockA_normal, ↓stepEv, opnd, Pg.look, binK, intOp, Bool.false_eq_true, false_implies, implies_true, true_and, and_true, valV, heapV, footV, binV, intV, ofV, ofLeaf, subA, subQ, ptrsE, pairsO, frzO, subF, subG, pickOf, assocN, pairsE, pairsC, pairs0, frzE, frzC, frz0, frzH, Pg.freeze, List.foldl_nil, subOs, subO, subEv, subV_succ, subM, ldCells, objAt, ↓callT, callC, callV, callH, normArgs, resL, res8_eq, res_succ, resM, shiftR, shift1, AV.cells, TK.cells, AV.leaf, AV.leafy, putCells, List.getElem?_cons_zero, Option.getD_some, Nat.reduceEqDiff, List.nil_append, List.append_nil, List.cons_append, List.length_cons, List.length_nil, List.map_cons, List.map_nil, List.set_cons_zero, Nat.zero_add, ite_true, ite_false, Option.some.injEq, Prod.mk.injEq, List.all_cons, List.all_nil, Bool.and_self, and_self, exists_eq_left', pickOK_one, length_ofBytes, getD_ofBytes, set_ofBytes, List.contains_nil, List.range'_zero, Int.toNat_natCast, Nat.le_refl, Nat.lt_irrefl, Nat.zero_lt_succ, tk5, dz5, tk53, tk87, ↓p0, hct, hwl, htn, g1, kByteFn, eq_self, UInt8.ofNat_toNat]
    exact ⟨by omega, by omega, by omega, by omega, by omega, j + 1, by omega, by omega, subX_eq (by rw [g2]) (pureB_bytes _), by rw [wrap64 (by omega) (by omega)]; omega⟩
  · have hcf : decide (a + (j : Int) < b) = false := decide_eq_false hlt
    have hjb : b.toNat - a.toNat = j := by omega
    have hjb2 : b.toNat = a.toNat + j := by omega
    simp (maxSteps := 4000000) only [↓wpA_H, ↓wpH_ret, ↓wpH_exit, ↓wpH_seq, ↓wpH_cond, ↓wpH_region, ↓iselH_false, bselH_false, runH_nil, runH_cons, gw, gselH_plain, cselH_bool, ↓chk, justK, noW, ↓oneK, ↓pureK, ↓heapK, ↓thenA_normal, ↓thenA_exit, ↓blockA_exit, ↓stepEv, opnd, Pg.look, binK, intOp, Bool.false_eq_true, implies_true, true_and, and_true, valV, heapV, footV, binV, intV, retA, resK, tupA, subA, subQ, ptrsE, frzO, subF, subG, pickOf, frzE, frzC, frz0, frzH, Pg.freeze, List.foldl_nil, subOs, subEv, subV_succ, subM, srcV, srcL, objAt, List.getElem?_cons_zero, Option.getD_some, Nat.reduceEqDiff, List.append_nil, List.length_nil, ite_true, ite_false, Option.some.injEq, AV.str.injEq, and_self, exists_eq_left', pickOK_nil, length_ofBytes, bytesOf_ofBytes, List.contains_nil, cutL, tk5, tk9, tk53, hcf, hwl]
    rw [hjb, hjb2]

/-- Each of some lines, some of its bytes turned. -/
def kEachTurn (fid : Nat) (caps : List AV) (g : UInt8 → UInt8) : C1 := C1.by [.sl 1 [], .id, .id, .id] (lCons cStrs (lCons (cInt .i64) (lCons (cInt .i64) (lOne (cFn 77 (lCons (cRp (lOne cStrs)) (lCons (cRp lRg) (lOne (cRp (lOne cAny))))))))))
  (fun d => small d.1 ∧ d.2.2.2.1 = d.1 ∧ valid d.1 d.2.2.2.2.1 = true ∧ d.2.1 = d.2.2.2.2.1.2.1 ∧ d.2.2.1 = d.2.2.2.2.1.2.2.2.1 ∧ d.2.2.2.2.2 = .fn fid caps)
  (fun d => aCh (d.2.1, cutL d.1 d.2.1.toNat (d.2.2.1 + 1).toNat, eachL d.2.1 d.2.2.1 (turnLine g d.1 d.2.2.2.2.1))) (fun _ => [])

theorem ok_EachTurn (fid : Nat) (caps : List AV) (g : UInt8 → UInt8) (hne : (42 = fid) = False) (hp : PureCaps caps) (hk : C1OK Try.prog fid (kByteFn caps g)) :
    C1OK Try.prog 61 (kEachTurn fid caps g) := C1OK.by (by kernel_rfl) (fun d h => by
  obtain ⟨ls, f, t, ls2, r, fv⟩ := d
  obtain ⟨h1, h2, h3, h4, h5, h6⟩ := h
  simp only at h1 h2 h3 h4 h5 h6
  subst h2
  subst h4
  subst h5
  subst h6
  obtain ⟨v1, v2, v3⟩ := valid_line h3
  exact calls_each ls2 r.2.1 r.2.2.2.1 _ _ (turnLine g ls2 r) v1 (by omega) v3 h1.1 (by simp) (.cons (.cons (.cons .nil)))
    (kLineFn_ok (by kernel_rfl) (fun i a b => calls_turn1 ls2 r i fid caps g a b h1 h3 hne hp hk))) (fun _ => rfl) (fun _ => rfl)

def turn (g : UInt8 → UInt8) (ls : Ls) (r : Rg) : Ch × Bool :=
  if valid ls r = true then ((r.2.1, cutL ls r.2.1.toNat (r.2.2.2.1 + 1).toNat, eachL r.2.1 r.2.2.2.1 (turnLine g ls r)), true) else ((0, [], []), false)

set_option maxRecDepth 20000 in
set_option maxHeartbeats 4000000 in
theorem calls_turn (ls : Ls) (r : Rg) (fid : Nat) (caps : List AV) (g : UInt8 → UInt8) (hs : small ls)
    (hne : (42 = fid) = False) (hp : PureCaps caps) (hk : C1OK Try.prog fid (kByteFn caps g)) :
    CallsR Try.prog 67 [.sl 1 (ls.map .str), aRg r, .fn fid caps] [] (.tuple [aCh (turn g ls r).1, .bool (turn g ls r).2]) [] := by
  have hE := ok_EachTurn fid caps g hne hp hk
  obtain ⟨p1, p0, p2, p3, p4⟩ := hp
  refine callsR_of (mrg := true) (dyn := []) (CtrOK.cons ok_Valid (CtrOK.cons hE (CtrOK.nil _))) mixed Try.func67 rfl (by simp [Try.ntmps67]) (by kernel_rfl) ?_
  rw [show Try.f67.results.toList = [.cell 6 35, .tmp 7] from by kernel_rfl]
  cases hv : valid ls r with
  | false =>
    simp (maxSteps := 4000000) only [↓wpA_H, ↓wpH_ret, ↓wpH_seq, ↓wpH_cond, ↓wpH_region, ↓iselH_true, bselH_false, runH_nil, runH_cons, gw, gselH_plain, cselH_bool, ↓chk, justK, noW, ↓oneK, ↓pureK, ↓heapK, envOf, ↓thenA_normal, ↓thenA_ret, ↓stepEv, opnd, Pg.look, Bool.not_false, Bool.false_eq_true, false_implies, implies_true, true_and, and_true, valV, heapV, footV, ofV, ofLeaf, retA, resK, tupA, subA, subQ, ptrsE, frzO, subF, subG, pickOf, frzE, frzC, frzL, frz0, frzH, Pg.freeze, List.foldl_nil, subOs, subEv, subV_succ, subM, subL, ldCells, objAt, ↓callT, callC, callV, callH, normArgs, normA, normC, resL, res8_eq, res_succ, resM, shiftR, shift1, AV.cells, TK.cells, AV.definite, AV.leaf, AV.leafy, putCells, lay, buildL, List.getElem?_cons_succ, List.getElem?_cons_zero, Option.getD_some, reduceCtorEq, Nat.reduceEqDiff, Nat.reduceAdd, List.nil_append, List.append_nil, List.cons_append, List.length_cons, List.length_nil, List.map_cons, List.map_nil, List.set_cons_zero, List.set_cons_succ, Nat.zero_add, ite_true, ite_false, Option.some.injEq, Option.isSome_some, AV.agg.injEq, Prod.mk.injEq, List.all_cons, List.all_nil, Bool.and_self, and_self, exists_eq_left', pickOK_nil, cInt_dec, cSl_dec, cAgg_dec, lOne_dec, lCons_dec, dec2_some, List.contains_nil, List.range'_zero, decL_str, C1by_ns, C1by_pre, C1by_r, C1by_H, optP_some, optV_some, optH_some, List.getD_cons_zero, cutL, List.drop_zero, List.drop_succ_cons, List.take_succ_cons, List.take_zero, Nat.sub_zero, Nat.le_refl, List.drop_nil, List.take_nil, Nat.zero_lt_succ, tk22, dz22, tk29, dz29, tk35, tz35, dz35, kValid, kEachTurn, aCh, aRg, hv, turn]
  | true =>
    obtain ⟨k, f1, f2, t1, t2⟩ := r
    simp (maxSteps := 4000000) only [↓wpA_H, ↓wpH_skip, ↓wpH_ret, ↓wpH_seq, ↓wpH_cond, ↓wpH_region, ↓iselH_false, bselH_false, runH_nil, runH_cons, gw, gselH_plain, cselH_bool, ↓chk, justK, noW, ↓oneK, ↓pureK, ↓heapK, envOf, ↓thenA_normal, ↓stepEv, opnd, Pg.look, Bool.not_true, Bool.false_eq_true, false_implies, implies_true, true_and, and_true, valV, heapV, footV, ofV, ofLeaf, retA, resK, tupA, subA, subQ, ptrsE, frzO, subF, subG, pickOf, frzE, frzC, frzL, frz0, frzH, Pg.freeze, List.foldl_nil, List.foldl_cons, subOs, subEv, subV_succ, subM, subL, ldCells, objAt, ↓callT, callC, callV, callH, normArgs, normA, normC, resL, res8_eq, res_succ, resM, shiftR, shift1, AV.cells, TK.cells, AV.definite, AV.leaf, AV.leafy, putCells, lay, frzAt, List.getElem?_cons_succ, List.getElem?_cons_zero, Option.getD_some, reduceCtorEq, Nat.reduceEqDiff, Nat.reduceAdd, List.nil_append, List.append_nil, List.cons_append, List.length_cons, List.length_nil, List.map_cons, List.map_nil, List.set_cons_zero, List.set_cons_succ, Nat.zero_add, ite_true, ite_false, Option.some.injEq, Prod.mk.injEq, List.all_cons, List.all_nil, Bool.and_self, and_self, exists_eq_left', pickOK_nil, cInt_dec, cAny_dec, cSl_dec, cAgg_dec, cRp_dec, cFn_dec, lOne_dec, lCons_dec, dec2_some, List.contains_nil, List.range'_zero, decL_str, C1by_ns, C1by_pre, C1by_r, C1by_H, optP_some, optV_some, optH_some, List.getD_cons_zero, cutL, List.drop_zero, List.drop_succ_cons, List.take_succ_cons, List.take_zero, Nat.add_zero, Nat.sub_zero, Nat.le_refl, List.drop_nil, List.take_nil, Nat.zero_lt_succ, tk3, tk22, dz22, tk27, tk29, dz29, tk35, tz35, dz35, kValid, kEachTurn, aCh, aRg, hv, turn, ↓p1]
    exact hs

def smallB (c : Int) : Bool := decide (c ≥ 97) && decide (c ≤ 122)
def capB (c : Int) : Bool := decide (c ≥ 65) && decide (c ≤ 90)
def caseB (up down : Bool) (b : UInt8) : UInt8 := if (up && smallB b.toNat) = true then UInt8.ofNat (b.toNat - 32) else if (down && capB b.toNat) = true then UInt8.ofNat (b.toNat + 32) else b

theorem calls_Case1 (c : Int) : CallsR Try.prog 65 [.int .u8 c] [] (.bool (smallB c)) [] := by
  refine callsR_of (mrg := true) (dyn := []) (CtrOK.nil _) mixed Try.func65 rfl (by simp [Try.ntmps65]) (by kernel_rfl) ?_
  rw [show Try.f65.results.toList = [.tmp 2] from by kernel_rfl]
  simp (maxSteps := 4000000) only [↓wpA_H, ↓wpH_ret, ↓wpH_seq, ↓wpH_region, bselH_false, runH_nil, runH_cons, gw, gselH_plain, gselH_if, kselH_1, gkind, ↓chk, justK, ↓oneK, ↓pureK, envOf, ↓thenA_normal, ↓stepEv, opnd, Pg.look, binK, intOp, dstOf, Bool.false_eq_true, implies_true, imp_self, true_and, and_true, pickC, pickV, unc, gof, mux, mergeK, condsL, valV, heapV, footV, binV, intV, mergeable, look_stripE, ofV, ofLeaf, sameK, retA, resK, tupA, subA, subQ, ptrsE, frzO, subF, subG, pickOf, frzE, frzC, frz0, frzH, Pg.freeze, List.foldl_nil, subOs, subEv, subV_succ, subM, Op.operands, List.getElem?_toArray, List.getElem?_cons_succ, List.getElem?_cons_zero, Option.bind_some, reduceCtorEq, Nat.reduceEqDiff, List.append_nil, List.length_nil, ite_true, ite_false, Bool.if_false_right, decide_eq_true_eq, decide_eq_false_iff_not, Int.not_le, Bool.and_self, and_self, pickOK_nil, List.toList_toArray, List.contains_nil]
  rfl
theorem calls_Case2 (c : Int) : CallsR Try.prog 66 [.int .u8 c] [] (.bool (capB c)) [] := by
  refine callsR_of (mrg := true) (dyn := []) (CtrOK.nil _) mixed Try.func66 rfl (by simp [Try.ntmps66]) (by kernel_rfl) ?_
  rw [show Try.f66.results.toList = [.tmp 2] from by kernel_rfl]
  simp (maxSteps := 4000000) only [↓wpA_H, ↓wpH_ret, ↓wpH_seq, ↓wpH_region, bselH_false, runH_nil, runH_cons, gw, gselH_plain, gselH_if, kselH_1, gkind, ↓chk, justK, ↓oneK, ↓pureK, envOf, ↓thenA_normal, ↓stepEv, opnd, Pg.look, binK, intOp, dstOf, Bool.false_eq_true, implies_true, imp_self, true_and, and_true, pickC, pickV, unc, gof, mux, mergeK, condsL, valV, heapV, footV, binV, intV, mergeable, look_stripE, ofV, ofLeaf, sameK, retA, resK, tupA, subA, subQ, ptrsE, frzO, subF, subG, pickOf, frzE, frzC, frz0, frzH, Pg.freeze, List.foldl_nil, subOs, subEv, subV_succ, subM, Op.operands, List.getElem?_toArray, List.getElem?_cons_succ, List.getElem?_cons_zero, Option.bind_some, reduceCtorEq, Nat.reduceEqDiff, List.append_nil, List.length_nil, ite_true, ite_false, Bool.if_false_right, decide_eq_true_eq, decide_eq_false_iff_not, Int.not_le, Bool.and_self, and_self, pickOK_nil, List.toList_toArray, List.contains_nil]
  rfl
def kSmallB : C1 := C1.by [.id] (lOne (cInt .u8)) (fun _ => True) (fun c => .bool (smallB c)) (fun _ => [])
theorem ok_Case1 : C1OK Try.prog 65 kSmallB := C1OK.by (by kernel_rfl) (fun d _ => calls_Case1 d) (fun _ => rfl) (fun _ => rfl)
def kCapB : C1 := C1.by [.id] (lOne (cInt .u8)) (fun _ => True) (fun c => .bool (capB c)) (fun _ => [])
theorem ok_Case2 : C1OK Try.prog 66 kCapB := C1OK.by (by kernel_rfl) (fun d _ => calls_Case2 d) (fun _ => rfl) (fun _ => rfl)

theorem calls_Case3 (up down : Bool) (b : UInt8) : CallsR Try.prog 68 [.int .u8 b.toNat, .rp [.bool up], .rp [.fn 65 []], .rp [.bool down], .rp [.fn 66 []]] [] (.int .u8 (caseB up down b).toNat) [] := by
  refine callsR_of (mrg := true) (dyn := []) (CtrOK.cons ok_Case1 (CtrOK.cons ok_Case2 (CtrOK.nil _))) mixed Try.func68 rfl (by simp [Try.ntmps68]) (by kernel_rfl) ?_
  rw [show Try.f68.results.toList = [.tmp 6] from by kernel_rfl]
  have hb := b.toNat_lt
  cases h1 : smallB b.toNat <;> cases h2 : capB b.toNat <;> cases up <;> cases down <;>
    simp (maxSteps := 4000000) only [↓wpA_H, ↓wpH_skip, ↓wpH_ret, ↓wpH_seq, ↓wpH_cond, ↓wpH_block, ↓wpH_region, ↓iselH_true, ↓iselH_false, bselH_false, runH_nil, runH_cons, gw, gselH_plain, gselH_if, kselH_1, cselH_bool, gkind, ↓chk, justK, noW, ↓oneK, ↓pureK, ↓heapK, envOf, ↓thenA_normal, ↓thenA_ret, ↓blockA_normal, ↓blockA_ret, ↓stepEv, opnd, Pg.look, binK, intOp, dstOf, Bool.not_false, Bool.not_true, Bool.false_eq_true, Bool.true_eq_false, implies_true, imp_self, true_and, and_true, pickC, pickV, unc, gof, mux, mergeK, condsL, valV, heapV, footV, binV, intV, mergeable, look_stripE, ofV, ofLeaf, sameK, retA, resK, tupA, subA, subQ, ptrsE, frzO, subF, subG, pickOf, frzE, frzC, frz0, frzH, Pg.freeze, List.foldl_nil, subOs, subEv, subV_succ, subM, ldCells, ↓callT, callC, callV, normArgs, normA, resL, res8_eq, res_succ, resM, shiftR, shift1, TK.cells, Op.operands, Call.operands, Array.toList_append, List.getElem?_toArray, List.getElem?_cons_succ, List.getElem?_cons_zero, Option.bind_some, Option.getD_some, reduceCtorEq, Nat.reduceEqDiff, Nat.reduceAdd, List.nil_append, List.append_nil, List.cons_append, List.length_nil, List.map_cons, List.map_nil, Nat.zero_add, ite_true, ite_false, Option.some.injEq, AV.bool.injEq, Bool.and_self, and_self, exists_eq_left', pickOK_nil, cInt_dec, List.toList_toArray, lOne_dec, List.contains_nil, List.range'_zero, C1by_ns, C1by_pre, C1by_r, C1by_H, optP_some, optV_some, optH_some, tk4, tk85, kSmallB, kCapB, h1, h2]
  all_goals
    simp only [caseB, h1, h2, Bool.true_and, Bool.false_and, Bool.false_eq_true, if_false, if_true, IntKind.wrap_u8, UInt8.toNat_ofNat']
    try (simp only [smallB, capB, Bool.and_eq_true, Bool.and_eq_false_iff, decide_eq_true_eq, decide_eq_false_iff_not] at h1 h2; omega)

theorem caps_case (up down : Bool) : PureCaps [.rp [.bool up], .rp [.fn 65 []], .rp [.bool down], .rp [.fn 66 []]] := .cons (.cons (.cons (.cons .nil)))
def kTurnCase : C1 := C1.by [.sl 1 [], .id, .id] (lCons cStrs (lCons cRg (lOne (cFn 68 (lCons (cRp (lOne cBool)) (lCons (cRp (lOne (cFn 65 lNil))) (lCons (cRp (lOne cBool)) (lOne (cRp (lOne (cFn 66 lNil))))))))))) (fun d => small d.1)
  (fun d => .tuple [aCh (turn (caseB d.2.2.1 d.2.2.2.2.1) d.1 d.2.1).1, .bool (turn (caseB d.2.2.1 d.2.2.2.2.1) d.1 d.2.1).2]) (fun _ => [])
theorem ok_turnCase : C1OK Try.prog 67 kTurnCase := C1OK.by (by kernel_rfl) (fun d h => calls_turn d.1 d.2.1 _ _ (caseB d.2.2.1 d.2.2.2.2.1) h (by simp) (caps_case _ _) (kByteFn_ok (by kernel_rfl) (fun b => calls_Case3 d.2.2.1 d.2.2.2.2.1 b))) (fun _ => rfl) (fun _ => rfl)

def kase (ls : Ls) (r : Rg) (how : List UInt8) : Ch × Bool :=
  if (how == [126]) = true then turn (caseB true true) ls r else if (how == [117]) = true then turn (caseB false true) ls r else if (how == [85]) = true then turn (caseB true false) ls r else ((0, [], []), false)

set_option maxRecDepth 20000 in
set_option maxHeartbeats 4000000 in
theorem calls_Case (ls : Ls) (r : Rg) (how : List UInt8) (hs : small ls) :
    CallsR Try.prog 46 [.sl 1 (ls.map .str), aRg r, .str how] [] (.tuple [aCh (kase ls r how).1, .bool (kase ls r how).2]) [] := by
  obtain ⟨k, f1, f2, t1, t2⟩ := r
  refine callsR_of (mrg := true) (dyn := []) (CtrOK.cons ok_turnCase (CtrOK.nil _)) mixed Try.func46 rfl (by simp [Try.ntmps46]) (by kernel_rfl) ?_
  rw [show Try.f46.results.toList = [.cell 6 35, .tmp 7] from by kernel_rfl]
  simp (maxSteps := 4000000) only [↓wpA_H, ↓wpH_ret, ↓wpH_seq, ↓wpH_cond, ↓wpH_block, ↓wpH_region, iselH_if, bselH_false, runH_nil, runH_cons, gw, gselH_plain, cselH_bool, ↓chk, justK, noW, ↓oneK, ↓pureK, ↓heapK, envOf, ↓thenA_normal, ↓thenA_ret, ↓blockA_normal, ↓blockA_ret, ↓stepEv, opnd, Pg.look, binK, strOp, Bool.false_eq_true, implies_true, true_and, and_true, valV, heapV, footV, binV, strV, ofV, ofLeaf, retA, resK, tupA, subA, subQ, ptrsE, frzO, subF, subG, pickOf, frzE, frzC, frzL, frz0, frzH, Pg.freeze, List.foldl_nil, List.foldl_cons, subOs, subEv, subV_succ, subM, subL, ldCells, objAt, ↓callT, callC, callV, callH, normArgs, normA, normC, resL, res8_eq, res_succ, resM, shiftR, shift1, AV.cells, TK.cells, AV.definite, AV.leaf, AV.leafy, putCells, lay, buildL, frzAt, List.getElem?_cons_succ, List.getElem?_cons_zero, Option.getD_some, reduceCtorEq, Nat.reduceEqDiff, Nat.reduceAdd, List.nil_append, List.append_nil, List.cons_append, List.length_cons, List.length_nil, List.map_cons, List.map_nil, List.set_cons_zero, List.set_cons_succ, Nat.zero_add, ite_true, ite_false, Option.some.injEq, Option.isSome_some, AV.agg.injEq, List.all_cons, List.all_nil, Bool.and_self, and_self, exists_eq_left', pickOK_nil, cInt_dec, cBool_dec, cSl_dec, cAgg_dec, cRp_dec, cFn_dec, lNil_dec, lOne_dec, lCons_dec, dec2_some, List.contains_nil, List.range'_zero, decL_str, C1by_ns, C1by_pre, C1by_r, C1by_H, optP_some, optV_some, optH_some, List.getD_cons_zero, cutL, List.drop_zero, List.drop_succ_cons, List.take_succ_cons, List.take_zero, Nat.sub_zero, Nat.le_refl, List.drop_nil, List.take_nil, Nat.zero_lt_succ, tk4, tz4, dz4, tk29, dz29, tk35, tz35, dz35, tk85, tz85, dz85, kTurnCase, aCh, aRg]
  cases h1 : how == [126] <;> cases h2 : how == [117] <;> cases h3 : how == [85] <;> simp [kase, h1, h2, h3, hs]
end Go.Pg
namespace Go.Pg
open Go Go.Proofs

/-- Lines f to t made anew. -/
def nowL (ls : Ls) (f t : Int) (G : Int → List UInt8) : Ls := ls.take f.toNat ++ eachL f t G ++ ls.drop (t + 1).toNat

theorem eachL_length (f t : Int) (G : Int → List UInt8) : (eachL f t G).length = (t + 1 - f).toNat := by simp [eachL]
theorem cutLs_length (ls : Ls) (f t : Int) (h0 : 0 ≤ f) (h1 : f ≤ t) (h2 : t < ls.length) : (cutL ls f.toNat (t + 1).toNat).length = (t + 1 - f).toNat := by
  unfold cutL; rw [List.length_take, List.length_drop]; omega

theorem applyL_now (ls : Ls) (f t : Int) (G : Int → List UInt8) (h0 : 0 ≤ f) (h1 : f ≤ t) (h2 : t < ls.length) :
    applyL ls [(f, cutL ls f.toNat (t + 1).toNat, eachL f t G)] = (nowL ls f t G, true) := by
  have n1 := cutLs_length ls f t h0 h1 h2
  have n2 := eachL_length f t G
  have e : apply1 ls (f, cutL ls f.toNat (t + 1).toNat, eachL f t G) = _ := if_neg ?_
  · rw [applyL1, e, if_pos rfl]
    simp only [nowL, n1]
    rw [show f.toNat + (t + 1 - f).toNat = (t + 1).toNat by omega]
  · intro h
    dsimp only at h
    rw [show f + ((cutL ls f.toNat (t + 1).toNat).length : Int) = t + 1 by omega] at h
    simp only [beq_self_eq_true, Bool.not_true, Bool.or_false, Bool.or_eq_true, decide_eq_true_eq, beq_iff_eq] at h
    omega

theorem nowL_length (ls : Ls) (f t : Int) (G : Int → List UInt8) (h0 : 0 ≤ f) (h1 : f ≤ t) (h2 : t < ls.length) : (nowL ls f t G).length = ls.length := by
  have n2 := eachL_length f t G
  simp only [nowL, List.length_append, List.length_take, List.length_drop, n2]
  omega

theorem eachL_getD (f t : Int) (G : Int → List UInt8) (i : Int) (h1 : f ≤ i) (h2 : i ≤ t) : (eachL f t G)[(i - f).toNat]? = some (G i) := by
  have hk : (i - f).toNat < (t + 1 - f).toNat := by omega
  simp only [eachL, List.getElem?_map, List.getElem?_range hk, Option.map_some]
  rw [show f + (((i - f).toNat : Nat) : Int) = i by omega]

theorem nowL_getD (ls : Ls) (f t : Int) (G : Int → List UInt8) (h0 : 0 ≤ f) (h2 : t < ls.length) (i : Int) (hi1 : f ≤ i) (hi2 : i ≤ t) : (nowL ls f t G).getD i.toNat [] = G i := by
  have hl : (ls.take f.toNat).length = f.toNat := by rw [List.length_take]; omega
  have n2 := eachL_length f t G
  unfold nowL
  rw [List.getD_eq_getElem?_getD, List.append_assoc, List.getElem?_append_right (by omega), hl, List.getElem?_append_left (by omega), show i.toNat - f.toNat = (i - f).toNat by omega, eachL_getD f t G i hi1 hi2]
  rfl

theorem nowL_fits {n b : Nat} {ls : Ls} (hf : fits n b ls) (f t : Int) (G : Int → List UInt8) (h0 : 0 ≤ f) (h1 : f ≤ t) (h2 : t < ls.length) {b' : Nat} (hb : b ≤ b') (hG : ∀ i, f ≤ i → i ≤ t → (G i).length ≤ b') : fits n b' (nowL ls f t G) := by
  refine ⟨by rw [nowL_length ls f t G h0 h1 h2]; exact hf.1, fun s hs => ?_⟩
  simp only [nowL, List.mem_append] at hs
  rcases hs with (hs | hs) | hs
  · exact Nat.le_trans (hf.2 s (List.mem_of_mem_take hs)) hb
  · simp only [eachL, List.mem_map, List.mem_range] at hs
    obtain ⟨k, hk, rfl⟩ := hs
    exact hG _ (by omega) (by omega)
  · exact Nat.le_trans (hf.2 s (List.mem_of_mem_drop hs)) hb

theorem eachL_back (ls : Ls) (f t : Int) (G : Int → List UInt8) (h0 : 0 ≤ f) (h1 : f ≤ t) (h2 : t < ls.length) (hG : ∀ i, f ≤ i → i ≤ t → G i = ls.getD i.toNat []) : eachL f t G = cutL ls f.toNat (t + 1).toNat := by
  have n1 := cutLs_length ls f t h0 h1 h2
  have n2 := eachL_length f t G
  refine List.ext_getElem? fun k => ?_
  by_cases hk : k < (t + 1 - f).toNat
  · have a := eachL_getD f t G (f + k) (by omega) (by omega)
    rw [show (f + (k : Int) - f).toNat = k by omega] at a
    rw [a, hG (f + k) (by omega) (by omega)]
    unfold cutL
    rw [List.getElem?_take_of_lt (by omega), List.getElem?_drop, show (f + (k : Int)).toNat = f.toNat + k by omega, List.getD_eq_getElem?_getD, List.getElem?_eq_getElem (show f.toNat + k < ls.length by omega)]
    rfl
  · rw [List.getElem?_eq_none (by omega), List.getElem?_eq_none (by omega)]

theorem dropB_rep (k : Nat) (s : List UInt8) : dropB k (List.replicate k 32 ++ s) = s := by
  induction k with
  | zero => exact dropB_zero s
  | succ k ih =>
    rw [List.replicate_succ, List.cons_append]
    show (if blank 32 = true then _ else _) = s
    rw [if_pos (by decide), ih]

theorem shift_twice (s : List UInt8) (k : Int) : shiftS (shiftS s k false) k true = s := by
  have e : shiftS s k false = if (s == []) = true then s else List.replicate (k * 4).toNat 32 ++ s := if_neg (by decide)
  rw [e]
  show dropB (k * 4).toNat _ = s
  split
  · next h =>
    have : s = [] := by simpa using h
    rw [this, dropB_nil]
  · exact dropB_rep _ s

theorem shiftS_len (s : List UInt8) (k : Int) (h0 : 0 ≤ k) (h : k ≤ 3) : (shiftS s k false).length ≤ s.length + 12 := by
  have e : shiftS s k false = if (s == []) = true then s else List.replicate (k * 4).toNat 32 ++ s := if_neg (by decide)
  rw [e]
  split
  · omega
  · rw [List.length_append, List.length_replicate]; omega

theorem shift_back (ls : Ls) (f t k : Int) (hf : fits 40 1200 ls) (h0 : 0 ≤ f) (h1 : f ≤ t) (h2 : t < ls.length) (k1 : 1 ≤ k) (k2 : k ≤ 3) :
    ∃ O N now M : Ls, shift ls f t k false = ((f, O, N), true) ∧ applyL ls [(f, O, N)] = (now, true) ∧ shift now f t k true = ((f, M, O), true) ∧ fits 40 1300 now ∧ O.length ≤ 40 ∧ N.length ≤ 40 := by
  have hl := hf.1
  have hk : min k 1024 = k := by omega
  have ap := applyL_now ls f t (fun i => shiftS (ls.getD i.toNat []) k false) h0 h1 h2
  have hG := fun i a b => nowL_getD ls f t (fun i => shiftS (ls.getD i.toNat []) k false) h0 h2 i a b
  have hn := nowL_length ls f t (fun i => shiftS (ls.getD i.toNat []) k false) h0 h1 h2
  have ft : fits 40 1300 (nowL ls f t (fun i => shiftS (ls.getD i.toNat []) k false)) := nowL_fits hf f t _ h0 h1 h2 (by omega) (fun i _ _ => by
    have := shiftS_len (ls.getD i.toNat []) k (by omega) k2
    have := fits_getD hf i.toNat
    omega)
  have n1 := cutLs_length ls f t h0 h1 h2
  have n2 := eachL_length f t (fun i => shiftS (ls.getD i.toNat []) k false)
  refine ⟨_, _, _, cutL (nowL ls f t (fun i => shiftS (ls.getD i.toNat []) k false)) f.toNat (t + 1).toNat, ?_, ap, ?_, ft, by omega, by omega⟩
  · unfold shift
    rw [hk, if_neg (by simp only [Bool.or_eq_true, decide_eq_true_eq]; omega)]
  · unfold shift
    rw [hk, if_neg (by simp only [Bool.or_eq_true, decide_eq_true_eq, hn]; omega)]
    have := eachL_back ls f t (fun i => shiftS ((nowL ls f t (fun i => shiftS (ls.getD i.toNat []) k false)).getD i.toNat []) k true) h0 h1 h2 (fun i a b => by
      simp only [hG i a b]
      exact shift_twice _ k)
    rw [this]

theorem caseB_nat : ∀ n, n < 256 → caseB true true (caseB true true (UInt8.ofNat n)) = UInt8.ofNat n := by decide +kernel
theorem caseB_twice (x : UInt8) : caseB true true (caseB true true x) = x := by
  have := caseB_nat x.toNat x.toNat_lt
  rwa [UInt8.ofNat_toNat] at this

theorem turn3_twice (A B C : List UInt8) (g : UInt8 → UInt8) (hg : ∀ x, g (g x) = x) :
    (A ++ B.map g ++ C).take A.length ++ (((A ++ B.map g ++ C).drop A.length).take B.length).map g ++ (A ++ B.map g ++ C).drop (A.length + B.length) = A ++ B ++ C := by
  have e1 : (A ++ B.map g ++ C).take A.length = A := by simp
  have e2 : ((A ++ B.map g ++ C).drop A.length).take B.length = B.map g := by
    rw [List.append_assoc, List.drop_left]
    have : B.length = (B.map g).length := by simp
    rw [this, List.take_left]
  have e3 : (A ++ B.map g ++ C).drop (A.length + B.length) = C := by
    have : A.length + B.length = (A ++ B.map g).length := by simp
    rw [this, List.drop_left]
  rw [e1, e2, e3, List.map_map]
  congr 2
  have : g ∘ g = id := funext hg
  rw [this, List.map_id]

theorem turn_twice (s : List UInt8) (a b : Nat) (g : UInt8 → UInt8) (hg : ∀ x, g (g x) = x) (h1 : a ≤ b) (h2 : b ≤ s.length) :
    (s.take a ++ (cutL s a b).map g ++ s.drop b).length = s.length ∧
    (s.take a ++ (cutL s a b).map g ++ s.drop b).take a ++ (cutL (s.take a ++ (cutL s a b).map g ++ s.drop b) a b).map g ++ (s.take a ++ (cutL s a b).map g ++ s.drop b).drop b = s := by
  have hA : (s.take a).length = a := by rw [List.length_take]; omega
  have hB : ((s.drop a).take (b - a)).length = b - a := by rw [List.length_take, List.length_drop]; omega
  have hs : s.take a ++ (s.drop a).take (b - a) ++ s.drop b = s := by
    have e1 : s.take a ++ (s.drop a).take (b - a) = s.take b := by
      rw [show b = a + (b - a) by omega, List.take_add]
      congr 2; omega
    rw [e1, List.take_append_drop]
  have := turn3_twice (s.take a) ((s.drop a).take (b - a)) (s.drop b) g hg
  rw [hA, hB, hs, show a + (b - a) = b by omega] at this
  unfold cutL
  exact ⟨by simp only [List.length_append, List.length_map, List.length_take, List.length_drop]; omega, this⟩

theorem turnLine_twice {ls now : Ls} {r : Rg} (hv : valid ls r = true) (g : UInt8 → UInt8) (hg : ∀ x, g (g x) = x) (i : Int) (h1 : r.2.1 ≤ i) (h2 : i ≤ r.2.2.2.1) (hn : now.getD i.toNat [] = turnLine g ls r i) :
    (turnLine g ls r i).length = (ls.getD i.toNat []).length ∧ turnLine g now r i = ls.getD i.toNat [] := by
  obtain ⟨a1, a2, a3, a4, a5⟩ := cols_ok hv i h1 h2
  obtain ⟨e1, e2⟩ := turn_twice (ls.getD i.toNat []) (cols (ls.getD i.toNat []).length r i).1.toNat (cols (ls.getD i.toNat []).length r i).2.toNat g hg (by omega) (by omega)
  have e0 : turnLine g ls r i = (ls.getD i.toNat []).take (cols (ls.getD i.toNat []).length r i).1.toNat ++ (cutL (ls.getD i.toNat []) (cols (ls.getD i.toNat []).length r i).1.toNat (cols (ls.getD i.toNat []).length r i).2.toNat).map g ++ (ls.getD i.toNat []).drop (cols (ls.getD i.toNat []).length r i).2.toNat := rfl
  have hlen : (turnLine g ls r i).length = (ls.getD i.toNat []).length := by rw [e0]; exact e1
  refine ⟨hlen, ?_⟩
  have e3 : turnLine g now r i = (now.getD i.toNat []).take (cols (now.getD i.toNat []).length r i).1.toNat ++ (cutL (now.getD i.toNat []) (cols (now.getD i.toNat []).length r i).1.toNat (cols (now.getD i.toNat []).length r i).2.toNat).map g ++ (now.getD i.toNat []).drop (cols (now.getD i.toNat []).length r i).2.toNat := rfl
  rw [e3, hn, hlen, e0]
  exact e2

theorem case_back (ls : Ls) (r : Rg) (hf : fits 40 1200 ls) (hv : valid ls r = true) :
    ∃ O N now M : Ls, kase ls r [126] = ((r.2.1, O, N), true) ∧ applyL ls [(r.2.1, O, N)] = (now, true) ∧ kase now r [126] = ((r.2.1, M, O), true) ∧ fits 40 1300 now ∧ O.length ≤ 40 ∧ N.length ≤ 40 := by
  obtain ⟨h0, h1, h2⟩ := valid_line hv
  have hl := hf.1
  have ap := applyL_now ls r.2.1 r.2.2.2.1 (turnLine (caseB true true) ls r) h0 h1 h2
  have hG := fun i a b => nowL_getD ls r.2.1 r.2.2.2.1 (turnLine (caseB true true) ls r) h0 h2 i a b
  have hn := nowL_length ls r.2.1 r.2.2.2.1 (turnLine (caseB true true) ls r) h0 h1 h2
  have tw := fun i a b => turnLine_twice hv (caseB true true) caseB_twice i a b (hG i a b)
  have ft : fits 40 1300 (nowL ls r.2.1 r.2.2.2.1 (turnLine (caseB true true) ls r)) := nowL_fits hf _ _ _ h0 h1 h2 (by omega) (fun i a b => by
    rw [(tw i a b).1]
    have := fits_getD hf i.toNat
    omega)
  have n1 := cutLs_length ls r.2.1 r.2.2.2.1 h0 h1 h2
  have n2 := eachL_length r.2.1 r.2.2.2.1 (turnLine (caseB true true) ls r)
  have lf : ((nowL ls r.2.1 r.2.2.2.1 (turnLine (caseB true true) ls r)).getD r.2.1.toNat []).length = (ls.getD r.2.1.toNat []).length := by rw [hG _ (by omega) h1, (tw _ (by omega) h1).1]
  have lt : ((nowL ls r.2.1 r.2.2.2.1 (turnLine (caseB true true) ls r)).getD r.2.2.2.1.toNat []).length = (ls.getD r.2.2.2.1.toNat []).length := by rw [hG _ h1 (by omega), (tw _ h1 (by omega)).1]
  have bk := eachL_back ls r.2.1 r.2.2.2.1 (turnLine (caseB true true) (nowL ls r.2.1 r.2.2.2.1 (turnLine (caseB true true) ls r)) r) h0 h1 h2 (fun i a b => (tw i a b).2)
  have k0 : ∀ x, kase x r [126] = turn (caseB true true) x r := fun x => if_pos (by decide)
  refine ⟨_, _, _, cutL (nowL ls r.2.1 r.2.2.2.1 (turnLine (caseB true true) ls r)) r.2.1.toNat (r.2.2.2.1 + 1).toNat, ?_, ap, ?_, ft, by omega, by omega⟩
  · rw [k0]
    unfold turn
    rw [if_pos hv]
  · rw [k0]
    generalize nowL ls r.2.1 r.2.2.2.1 (turnLine (caseB true true) ls r) = now at hn lf lt bk
    have hv2 : valid now r = true := by
      rw [← hv]
      simp only [valid, place, hn, lf, lt]
    unfold turn
    rw [if_pos hv2, bk]
end Go.Pg
