/- Ranges: which may be, which bytes of a line they have. -/
import Derived.Test.YtefihnkbelhneaaDoorPgFs12
import Derived.Test.YtefihnkbelhneaaDoorPgFs31
namespace Go.Pg
open Go Go.Proofs

abbrev Rg := Int × Int × Int × Int × Int
def aRg (r : Rg) : AV := .agg [.int .i64 r.1, .int .i64 r.2.1, .int .i64 r.2.2.1, .int .i64 r.2.2.2.1, .int .i64 r.2.2.2.2]
abbrev lRg : CdL Rg := lCons (cInt .i64) (lCons (cInt .i64) (lCons (cInt .i64) (lCons (cInt .i64) (lOne (cInt .i64)))))
abbrev cRg : Cd Rg := cAgg lRg

def valid (ls : Ls) (r : Rg) : Bool :=
  !(decide (r.2.1 < 0) || decide (r.2.1 > r.2.2.2.1) || decide (r.2.2.2.1 ≥ ls.length)) &&
  (if (r.1 == 0) = true then place ls r.2.1 r.2.2.1 && place ls r.2.2.2.1 r.2.2.2.2 && !less (r.2.2.2.1, r.2.2.2.2) (r.2.1, r.2.2.1)
   else if (r.1 == 1) = true then true else if (r.1 == 2) = true then decide (r.2.2.1 ≥ 0) && decide (r.2.2.1 ≤ r.2.2.2.2) else false)

/-- Which bytes of a line of so many: from, up to. -/
def cols (n : Nat) (r : Rg) (i : Int) : Int × Int :=
  if (r.1 == 0) = true then ((if (i == r.2.1) = true then r.2.2.1 else 0), (if (i == r.2.2.2.1) = true then r.2.2.2.2 else n))
  else if (r.1 == 2) = true then (min r.2.2.1 n, min r.2.2.2.2 ((n : Int) - 1) + 1) else (0, n)

set_option maxHeartbeats 4000000 in
theorem calls_Valid (ls : Ls) (r : Rg) : CallsR Tryd.prog 41 [.sl 1 (ls.map .str), aRg r] [] (.bool (valid ls r)) [] := by
  obtain ⟨k, f1, f2, t1, t2⟩ := r
  refine callsR_of (mrg := true) (dyn := []) (CtrOK.cons ok_CPlace (CtrOK.cons ok_Less (CtrOK.nil _))) mixed Tryd.func41 rfl (by simp [Tryd.ntmps41]) (by kernel_rfl) ?_
  rw [show Tryd.f41.results.toList = [.tmp 4] from by kernel_rfl]
  simp (maxSteps := 4000000) only [↓wpA_H, ↓wpH_skip, ↓wpH_ret, ↓wpH_seq, ↓wpH_cond, ↓wpH_block, ↓wpH_region, iselH_if, bselH_false, runH_nil, runH_cons, gw, gselH_plain, gselH_if, kselH_1, cselH_bool, gkind, ↓chk, justK, noW, ↓oneK, ↓pureK, ↓heapK, envOf, ↓thenA_normal, ↓thenA_ret, ↓blockA_normal, ↓blockA_ret, ↓stepEv, opnd, Pg.look, binK, intOp, dstOf, Bool.false_eq_true, false_implies, implies_true, imp_self, true_and, and_true, pickC, pickV, unc, gof, mux, mergeK, condsL, valV, heapV, footV, binV, intV, mergeable, look_stripE, ofV, ofLeaf, sameK, retA, resK, tupA, subA, subQ, ptrsE, frzO, subF, subG, pickOf, frzE, frzC, frz0, frzH, Pg.freeze, List.foldl_nil, subOs, subEv, subV_succ, subM, slen, ldCells, objAt, ↓callT, callC, callV, callH, normArgs, normA, normC, resL, res8_eq, res_succ, resM, shiftR, shift1, AV.cells, TK.cells, AV.definite, Op.operands, Call.operands, Array.toList_append, List.getElem?_toArray, List.getElem?_cons_succ, List.getElem?_cons_zero, Option.bind_some, Option.getD_some, reduceCtorEq, Nat.reduceEqDiff, Nat.reduceAdd, Nat.reduceSub, List.nil_append, List.append_nil, List.cons_append, List.length_cons, List.length_nil, List.map_cons, List.map_nil, Nat.zero_add, ite_true, ite_false, Option.some.injEq, AV.int.injEq, Prod.mk.injEq, Bool.if_false_right, Bool.if_true_left, Bool.decide_eq_true, decide_eq_true_eq, decide_eq_false_iff_not, Int.not_le, Int.not_lt, Bool.and_self, and_self, Bool.not_eq_true', exists_eq_left', pickOK_nil, List.length_map, cInt_dec, List.toList_toArray, cSl_dec, cAgg_dec, lOne_dec, lCons_dec, dec2_some, List.contains_nil, List.range'_zero, decL_str, C1by_ns, C1by_pre, C1by_r, C1by_H, optP_some, optV_some, optH_some, List.getD_cons_zero, cutL, List.drop_zero, List.drop_succ_cons, List.take_succ_cons, List.take_zero, Nat.add_zero, Nat.reduceLeDiff, Nat.le_refl, List.take_nil, Nat.zero_lt_succ, tk3, tk22, tk24, tk49, dz49, aRg, kRPlace, kLess]
  refine ⟨fun h => ?_, fun h => ⟨fun h1 => ?_, fun h1 => ⟨fun h2 => ?_, fun h2 => ⟨fun h3 => ?_, fun h3 => ?_⟩⟩⟩⟩
  all_goals simp only [valid, *, Bool.not_true, Bool.not_false, Bool.false_and, Bool.true_and, if_true, Bool.false_eq_true, if_false]

set_option maxHeartbeats 4000000 in
theorem calls_RValid (ls : Ls) (r : Rg) : CallsR Tryd.prog 45 [.sl 1 (ls.map .str), aRg r] [] (.bool (valid ls r)) [] := by
  obtain ⟨k, f1, f2, t1, t2⟩ := r
  refine callsR_of (mrg := true) (dyn := []) (CtrOK.cons ok_R5Place (CtrOK.cons ok_RLess (CtrOK.nil _))) mixed Tryd.func45 rfl (by simp [Tryd.ntmps45]) (by kernel_rfl) ?_
  rw [show Tryd.f45.results.toList = [.tmp 4] from by kernel_rfl]
  simp (maxSteps := 4000000) only [↓wpA_H, ↓wpH_skip, ↓wpH_ret, ↓wpH_seq, ↓wpH_cond, ↓wpH_block, ↓wpH_region, iselH_if, bselH_false, runH_nil, runH_cons, gw, gselH_plain, gselH_if, kselH_1, cselH_bool, gkind, ↓chk, justK, noW, ↓oneK, ↓pureK, ↓heapK, envOf, ↓thenA_normal, ↓thenA_ret, ↓blockA_normal, ↓blockA_ret, ↓stepEv, opnd, Pg.look, binK, intOp, dstOf, Bool.false_eq_true, false_implies, implies_true, imp_self, true_and, and_true, pickC, pickV, unc, gof, mux, mergeK, condsL, valV, heapV, footV, binV, intV, mergeable, look_stripE, ofV, ofLeaf, sameK, retA, resK, tupA, subA, subQ, ptrsE, frzO, subF, subG, pickOf, frzE, frzC, frz0, frzH, Pg.freeze, List.foldl_nil, subOs, subEv, subV_succ, subM, slen, ldCells, objAt, ↓callT, callC, callV, callH, normArgs, normA, normC, resL, res8_eq, res_succ, resM, shiftR, shift1, AV.cells, TK.cells, AV.definite, Op.operands, Call.operands, Array.toList_append, List.getElem?_toArray, List.getElem?_cons_succ, List.getElem?_cons_zero, Option.bind_some, Option.getD_some, reduceCtorEq, Nat.reduceEqDiff, Nat.reduceAdd, Nat.reduceSub, List.nil_append, List.append_nil, List.cons_append, List.length_cons, List.length_nil, List.map_cons, List.map_nil, Nat.zero_add, ite_true, ite_false, Option.some.injEq, AV.int.injEq, Prod.mk.injEq, Bool.if_false_right, Bool.if_true_left, Bool.decide_eq_true, decide_eq_true_eq, decide_eq_false_iff_not, Int.not_le, Int.not_lt, Bool.and_self, and_self, Bool.not_eq_true', exists_eq_left', pickOK_nil, List.length_map, cInt_dec, List.toList_toArray, cSl_dec, cAgg_dec, lOne_dec, lCons_dec, dec2_some, List.contains_nil, List.range'_zero, decL_str, C1by_ns, C1by_pre, C1by_r, C1by_H, optP_some, optV_some, optH_some, List.getD_cons_zero, cutL, List.drop_zero, List.drop_succ_cons, List.take_succ_cons, List.take_zero, Nat.add_zero, Nat.reduceLeDiff, Nat.le_refl, List.take_nil, Nat.zero_lt_succ, tk3, tk22, tk24, tk49, dz49, aRg, kRPlace, kLess]
  rw [show (decide (f1 < 0) || decide (t1 ≥ (ls.length : Int)) || decide (f1 > t1)) = (decide (f1 < 0) || decide (f1 > t1) || decide (t1 ≥ (ls.length : Int))) by rw [Bool.or_assoc, Bool.or_assoc, Bool.or_comm (decide (t1 ≥ (ls.length : Int)))]]
  refine ⟨fun h => ?_, fun h => ⟨fun h1 => ?_, fun h1 => ⟨fun h2 => ?_, fun h2 => ⟨fun h3 => ?_, fun h3 => ?_⟩⟩⟩⟩
  all_goals simp only [valid, *, Bool.not_true, Bool.not_false, Bool.false_and, Bool.true_and, if_true, Bool.false_eq_true, if_false]

def kValid : C1 := C1.by [.sl 1 [], .id] (lCons cStrs (lOne cRg)) (fun _ => True) (fun d => .bool (valid d.1 d.2)) (fun _ => [])
theorem ok_Valid : C1OK Tryd.prog 41 kValid := C1OK.by (by kernel_rfl) (fun d _ => calls_Valid d.1 d.2) (fun _ => rfl) (fun _ => rfl)
theorem ok_RValid : C1OK Tryd.prog 45 kValid := C1OK.by (by kernel_rfl) (fun d _ => calls_RValid d.1 d.2) (fun _ => rfl) (fun _ => rfl)

set_option maxHeartbeats 4000000 in
theorem calls_Columns (ls : Ls) (r : Rg) (i : Int) (h1 : 0 ≤ i ∧ i < ls.length) (hs : ∀ i, (ls.getD i []).length ≤ 140737488355328) (hr : (r.1 == 2) = true → 0 ≤ r.2.2.2.2) :
    CallsR Tryd.prog 44 [.sl 1 (ls.map .str), aRg r, .int .i64 i] [] (.tuple [.int .i64 (cols (ls.getD i.toNat []).length r i).1, .int .i64 (cols (ls.getD i.toNat []).length r i).2]) [] := by
  obtain ⟨k, f1, f2, t1, t2⟩ := r
  refine callsR_of (mrg := true) (dyn := []) (CtrOK.nil _) mixed Tryd.func44 rfl (by simp [Tryd.ntmps44]) (by kernel_rfl) ?_
  rw [show Tryd.f44.results.toList = [.tmp 6, .tmp 7] from by kernel_rfl]
  simp (maxSteps := 4000000) only [↓wpA_H, ↓wpH_skip, ↓wpH_ret, ↓wpH_seq, ↓wpH_cond, ↓wpH_block, ↓wpH_region, iselH_if, bselH_false, runH_nil, runH_cons, gw, gselH_plain, cselH_bool, ↓chk, justK, noW, ↓oneK, ↓pureK, ↓heapK, envOf, ↓thenA_normal, ↓blockA_normal, ↓stepEv, opnd, Pg.look, binK, intOp, Bool.false_eq_true, implies_true, true_and, and_true, valV, heapV, footV, binV, intV, ofV, ofLeaf, retA, resK, tupA, subA, subQ, ptrsE, frzO, subF, subG, pickOf, frzE, frzC, frzL, frz0, frzH, Pg.freeze, List.foldl_nil, subOs, subEv, subV_succ, subM, subL, ldCells, objAt, AV.cells, TK.cells, AV.definite, foldInts, List.getElem?_cons_succ, List.getElem?_cons_zero, Option.getD_some, reduceCtorEq, Nat.reduceEqDiff, Nat.reduceAdd, List.nil_append, List.append_nil, List.length_cons, List.length_nil, List.map_cons, List.map_nil, Nat.zero_add, ite_true, ite_false, Option.some.injEq, AV.int.injEq, and_self, exists_eq_left', pickOK_nil, List.length_map, List.contains_nil, getD_str, List.getD_cons_zero, Nat.add_zero, Nat.zero_lt_succ, tk3, tk9, dz9, tk22, tk24, tk49, dz49, aRg]
  have hl := hs i.toNat
  simp only at hr
  refine ⟨⟨h1.1, by omega⟩, fun h2 => ⟨fun h3 => ⟨fun h4 => ?_, fun h4 => ?_⟩, fun h3 => ⟨fun h4 => ?_, fun h4 => ?_⟩⟩, fun h2 => ⟨fun h3 => ?_, fun h3 => ?_⟩⟩
  case refine_5 =>
    simp only [cols, h2, h3, if_true, Bool.false_eq_true, if_false]
    have := hr h3
    rw [wrap64 (n := ((ls.getD i.toNat []).length : Int) - 1) (by omega) (by omega), wrap64 (by omega) (by omega)]
    simp
  all_goals simp only [cols, *, if_true, Bool.false_eq_true, if_false, and_self]

def kColumns : C1 := C1.by [.sl 1 [], .id, .id] (lCons cStrs (lCons cRg (lOne (cInt .i64)))) (fun d => (0 ≤ d.2.2 ∧ d.2.2 < d.1.length) ∧ (∀ i, (d.1.getD i []).length ≤ 140737488355328) ∧ ((d.2.1.1 == 2) = true → 0 ≤ d.2.1.2.2.2.2))
  (fun d => .tuple [.int .i64 (cols (d.1.getD d.2.2.toNat []).length d.2.1 d.2.2).1, .int .i64 (cols (d.1.getD d.2.2.toNat []).length d.2.1 d.2.2).2]) (fun _ => [])
theorem ok_Columns : C1OK Tryd.prog 44 kColumns := C1OK.by (by kernel_rfl) (fun d h => calls_Columns d.1 d.2.1 d.2.2 h.1 h.2.1 h.2.2) (fun _ => rfl) (fun _ => rfl)

/-- Of a block, by the document. -/
def rcols (n : Nat) (r : Rg) : Int × Int := (min r.2.2.1 n, max (min r.2.2.1 n) (if r.2.2.2.2 < n then r.2.2.2.2 + 1 else n))

set_option maxHeartbeats 4000000 in
theorem calls_Cols (s : List UInt8) (r : Rg) (h : s.length ≤ 140737488355328) (hr : 0 ≤ r.2.2.2.2) :
    CallsR Tryd.prog 46 [.str s, aRg r] [] (.tuple [.int .i64 (rcols s.length r).1, .int .i64 (rcols s.length r).2]) [] := by
  obtain ⟨k, f1, f2, t1, t2⟩ := r
  refine callsR_of (mrg := true) (dyn := []) (CtrOK.nil _) mixed Tryd.func46 rfl (by simp [Tryd.ntmps46]) (by kernel_rfl) ?_
  rw [show Tryd.f46.results.toList = [.tmp 4, .tmp 5] from by kernel_rfl]
  simp (maxSteps := 4000000) only [↓wpA_H, ↓wpH_skip, ↓wpH_ret, ↓wpH_seq, ↓wpH_cond, ↓wpH_region, iselH_if, bselH_false, runH_nil, runH_cons, gw, gselH_plain, cselH_bool, ↓chk, justK, noW, ↓oneK, ↓pureK, ↓heapK, envOf, ↓thenA_normal, ↓stepEv, opnd, Pg.look, binK, intOp, Bool.false_eq_true, implies_true, true_and, and_true, valV, heapV, footV, binV, intV, ofV, ofLeaf, retA, resK, tupA, subA, subQ, ptrsE, frzO, subF, subG, pickOf, frzE, frzC, frzL, frz0, frzH, Pg.freeze, List.foldl_nil, subOs, subEv, subV_succ, subM, subL, ldCells, objAt, AV.cells, TK.cells, AV.definite, foldInts, List.getElem?_cons_succ, List.getElem?_cons_zero, Option.getD_some, reduceCtorEq, Nat.reduceEqDiff, Nat.reduceAdd, List.nil_append, List.append_nil, List.length_cons, List.length_nil, List.map_cons, List.map_nil, Nat.zero_add, ite_true, ite_false, Option.some.injEq, AV.int.injEq, decide_eq_true_eq, decide_eq_false_iff_not, Int.not_lt, and_self, exists_eq_left', pickOK_nil, List.contains_nil, List.getD_cons_zero, Nat.zero_lt_succ, tk3, tk9, tk24, tk49, dz49, aRg, rcols]
  simp only at hr
  refine ⟨fun h1 => ?_, fun h1 => ?_⟩
  · rw [if_pos h1, wrap64 (by omega) (by omega)]
  · rw [if_neg (by omega)]

def kRCols : C1 := C1.by [.id, .id] (lCons cStr (lOne cRg)) (fun d => d.1.length ≤ 140737488355328 ∧ 0 ≤ d.2.2.2.2.2) (fun d => .tuple [.int .i64 (rcols d.1.length d.2).1, .int .i64 (rcols d.1.length d.2).2]) (fun _ => [])
theorem ok_RCols : C1OK Tryd.prog 46 kRCols := C1OK.by (by kernel_rfl) (fun d h => calls_Cols d.1 d.2 h.1 h.2) (fun _ => rfl) (fun _ => rfl)

/-- What a range that may be has of a line lies in it. -/
theorem cols_ok {ls : Ls} {r : Rg} (h : valid ls r = true) (i : Int) (h1 : r.2.1 ≤ i) (h2 : i ≤ r.2.2.2.1) :
    0 ≤ i ∧ i < ls.length ∧ 0 ≤ (cols (ls.getD i.toNat []).length r i).1 ∧ (cols (ls.getD i.toNat []).length r i).1 ≤ (cols (ls.getD i.toNat []).length r i).2 ∧ (cols (ls.getD i.toNat []).length r i).2 ≤ (ls.getD i.toNat []).length := by
  obtain ⟨k, f1, f2, t1, t2⟩ := r
  simp only at h1 h2
  simp only [valid, Bool.and_eq_true, Bool.not_eq_true', Bool.or_eq_false_iff, decide_eq_false_iff_not] at h
  obtain ⟨⟨⟨a1, a2⟩, a3⟩, hk⟩ := h
  refine ⟨by omega, by omega, ?_⟩
  simp only [cols]
  by_cases k0 : (k == 0) = true
  · rw [if_pos k0] at hk ⊢
    simp only [Bool.and_eq_true, Bool.not_eq_true'] at hk
    obtain ⟨⟨b1, b2⟩, b3⟩ := hk
    rw [place_iff] at b1 b2
    simp only [less, Bool.or_eq_false_iff, decide_eq_false_iff_not, Bool.and_eq_false_imp, beq_iff_eq] at b3
    by_cases e1 : i = f1 <;> by_cases e2 : i = t1
    · subst e1; subst e2
      simp only [beq_self_eq_true, if_true]
      have := b3.2 rfl
      omega
    · subst e1
      simp only [beq_self_eq_true, if_true, beq_eq_false_iff_ne.2 e2, Bool.false_eq_true, if_false]
      omega
    · subst e2
      simp only [beq_self_eq_true, if_true, beq_eq_false_iff_ne.2 e1, Bool.false_eq_true, if_false]
      omega
    · simp only [beq_eq_false_iff_ne.2 e1, beq_eq_false_iff_ne.2 e2, Bool.false_eq_true, if_false]
      omega
  · rw [if_neg k0] at hk ⊢
    by_cases k2 : (k == 2) = true
    · have k1 : ¬ (k == 1) = true := by
        simp only [beq_iff_eq] at k2 ⊢; omega
      rw [if_neg k1, if_pos k2] at hk
      rw [if_pos k2]
      simp only [Bool.and_eq_true, decide_eq_true_eq] at hk
      omega
    · rw [if_neg k2]
      simp only
      omega

theorem cols_block {n : Nat} {r : Rg} {i : Int} (h : r.1 = 2) (h1 : 0 ≤ r.2.2.1) (h2 : r.2.2.1 ≤ r.2.2.2.2) : cols n r i = rcols n r := by
  obtain ⟨k, f1, f2, t1, t2⟩ := r
  simp only at h h1 h2
  subst h
  simp only [cols, rcols]
  rw [if_neg (by decide), if_pos (by decide)]
  congr 1
  split <;> omega
end Go.Pg
