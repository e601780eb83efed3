/- Classes of bytes, places in order. -/
import Derived.Test.YtefihnkbelhneaaDoorPgFs4
namespace Go.Pg
open Go Go.Proofs

theorem grd1 (x : Bool) (p : Prop) [Decidable p] : (x = false → x = false ∧ (p → (!x && decide p) = true)) = True := by
  cases x <;> simp
theorem grd2 (x y : Bool) : (x = false → x = false ∧ (y = true → (!x && y) = true)) = True := by
  cases x <;> simp

def wordB (c : Int) : Bool := (decide (c ≥ 97) && decide (c ≤ 122)) || (decide (c ≥ 65) && decide (c ≤ 90)) || (decide (c ≥ 48) && decide (c ≤ 57)) || c == 95 || decide (c ≥ 128)
def cls (c : Int) (big : Bool) : Int := if (c == 32 || c == 9) = true then 0 else if (big || wordB c) = true then 1 else 2

theorem calls_Of (c : Int) (big : Bool) : CallsR Tryd.prog 57 [.int .u8 c, .bool big] [] (.int .i64 (cls c big)) [] := by
  refine callsR_of (mrg := true) (dyn := []) (CtrOK.nil _) mixed Tryd.func57 rfl (by simp [Tryd.ntmps57]) (by kernel_rfl) ?_
  rw [show Tryd.f57.results.toList = [.tmp 4] from by kernel_rfl]
  simp (maxSteps := 4000000) only [↓wpA_H, ↓wpH_skip, ↓wpH_ret, ↓wpH_seq, ↓wpH_cond, ↓wpH_block, ↓wpH_region, iselH_if, bselH_false, runH_nil, runH_cons, gw, gselH_plain, gselH_if, kselH_1, cselH_bool, gkind, ↓chk, justK, ↓oneK, ↓pureK, envOf, ↓thenA_normal, ↓thenA_ret, ↓blockA_normal, ↓blockA_ret, ↓stepEv, opnd, Pg.look, binK, intOp, dstOf, Bool.false_eq_true, implies_true, imp_self, true_and, and_true, pickC, pickV, unc, gof, mux, mergeK, condsL, valV, heapV, footV, binV, intV, mergeable, look_stripE, ofV, ofLeaf, sameK, retA, resK, tupA, subA, subQ, ptrsE, frzO, subF, subG, pickOf, frzE, frzC, frz0, frzH, Pg.freeze, List.foldl_nil, subOs, subEv, subV_succ, subM, Op.operands, List.getElem?_toArray, List.getElem?_cons_succ, List.getElem?_cons_zero, Option.bind_some, reduceCtorEq, Nat.reduceEqDiff, List.append_nil, List.length_nil, Nat.zero_add, ite_true, ite_false, Bool.if_false_right, Bool.if_true_left, Bool.decide_eq_true, decide_eq_true_eq, decide_eq_false_iff_not, Int.not_le, Bool.and_self, and_self, Bool.not_eq_true', pickOK_nil, List.toList_toArray, List.contains_nil]
  unfold cls wordB
  have h : (c ≥ 128 ∧ decide (c ≥ 128) = true ∧ ¬ c < 128) ∨ (¬ c ≥ 128 ∧ decide (c ≥ 128) = false ∧ c < 128) := by
    by_cases h : c ≥ 128
    · exact .inl ⟨h, decide_eq_true h, by omega⟩
    · exact .inr ⟨h, decide_eq_false h, by omega⟩
  generalize (c == 32 || c == 9) = x0
  generalize (decide (c ≥ 97) && decide (c ≤ 122)) = x1
  generalize (decide (c ≥ 65) && decide (c ≤ 90)) = x2
  generalize (decide (c ≥ 48) && decide (c ≤ 57)) = x3
  generalize (c == 95) = x4
  rcases h with ⟨h1, h2, h3⟩ | ⟨h1, h2, h3⟩
  all_goals rw [h2]
  all_goals cases x0 <;> cases big <;> cases x1 <;> cases x2 <;> cases x3 <;> cases x4 <;> simp [h1, h3]
theorem calls_ROf (c : Int) (big : Bool) : CallsR Tryd.prog 22 [.int .u8 c, .bool big] [] (.int .i64 (cls c big)) [] := by
  refine callsR_of (mrg := true) (dyn := []) (CtrOK.nil _) mixed Tryd.func22 rfl (by simp [Tryd.ntmps22]) (by kernel_rfl) ?_
  rw [show Tryd.f22.results.toList = [.tmp 4] from by kernel_rfl]
  simp (maxSteps := 4000000) only [↓wpA_H, ↓wpH_skip, ↓wpH_ret, ↓wpH_seq, ↓wpH_cond, ↓wpH_block, ↓wpH_region, iselH_if, bselH_false, runH_nil, runH_cons, gw, gselH_plain, gselH_if, kselH_0, kselH_1, cselH_bool, gkind, ↓chk, pickO, justK, ↓oneK, ↓pureK, envOf, ↓thenA_normal, ↓thenA_ret, ↓blockA_normal, ↓blockA_ret, ↓stepEv, opnd, Pg.look, binK, intOp, dstOf, Bool.false_eq_true, implies_true, imp_self, true_and, and_true, pickC, pickV, unc, gof, mux, mergeK, condsL, valV, heapV, footV, binV, intV, mergeable, look_stripE, ofV, ofLeaf, sameK, retA, resK, tupA, subA, subQ, ptrsE, frzO, subF, subG, pickOf, frzE, frzC, frz0, frzH, Pg.freeze, List.foldl_nil, subOs, subEv, subV_succ, subM, Op.operands, List.getElem?_toArray, List.getElem?_cons_succ, List.getElem?_cons_zero, Option.bind_some, reduceCtorEq, Nat.reduceEqDiff, List.append_nil, List.length_nil, Nat.zero_add, ite_true, ite_false, Bool.if_false_right, Bool.if_true_left, Bool.decide_eq_true, decide_eq_true_eq, decide_eq_false_iff_not, Int.not_le, Bool.and_self, and_self, Bool.not_eq_true', pickOK_nil, List.toList_toArray, List.contains_nil, grd1]
  refine ⟨fun h => ?_, fun h => ⟨fun h1 => ?_, fun h1 => ?_⟩⟩
  · rw [cls, if_pos h]
  · have e : (big || wordB c) = true := by rw [← h1]; simp only [wordB, Bool.or_assoc]
    rw [cls, if_neg (by rw [h]; simp), if_pos e]
  · have e : (big || wordB c) = false := by rw [← h1]; simp only [wordB, Bool.or_assoc]
    rw [cls, if_neg (by rw [h]; simp), if_neg (by rw [e]; simp)]

def less (p q : Int × Int) : Bool := decide (p.1 < q.1) || (p.1 == q.1 && decide (p.2 < q.2))
theorem calls_Less (p q : Int × Int) : CallsR Tryd.prog 59 [aPos p, aPos q] [] (.bool (less p q)) [] := by
  refine callsR_of (mrg := true) (dyn := []) (CtrOK.nil _) mixed Tryd.func59 rfl (by simp [Tryd.ntmps59]) (by kernel_rfl) ?_
  rw [show Tryd.f59.results.toList = [.tmp 4] from by kernel_rfl]
  simp (maxSteps := 4000000) only [↓wpA_H, ↓wpH_ret, ↓wpH_seq, ↓wpH_region, bselH_false, runH_nil, runH_cons, gw, gselH_plain, gselH_if, kselH_0, kselH_1, gkind, ↓chk, pickO, justK, noW, ↓oneK, ↓pureK, ↓heapK, envOf, ↓thenA_normal, ↓stepEv, opnd, Pg.look, binK, intOp, dstOf, Bool.false_eq_true, implies_true, imp_self, true_and, and_true, pickC, pickV, unc, gof, mux, mergeK, condsL, valV, heapV, footV, binV, intV, mergeable, look_stripE, ofV, ofLeaf, sameK, retA, resK, tupA, subA, subQ, ptrsE, frzO, subF, subG, pickOf, frzE, frzC, frz0, frzH, Pg.freeze, List.foldl_nil, subOs, subEv, subV_succ, subM, ldCells, objAt, AV.cells, TK.cells, AV.definite, Op.operands, List.getElem?_toArray, List.getElem?_cons_succ, List.getElem?_cons_zero, Option.bind_some, Option.getD_some, reduceCtorEq, Nat.reduceEqDiff, Nat.reduceAdd, List.nil_append, List.append_nil, List.cons_append, List.length_cons, List.length_nil, Nat.zero_add, ite_true, ite_false, Option.some.injEq, Bool.if_false_right, Bool.if_true_left, Bool.decide_eq_true, decide_eq_true_eq, decide_eq_false_iff_not, Int.not_lt, Bool.and_self, and_self, Bool.not_eq_true', exists_eq_left', pickOK_nil, List.toList_toArray, List.contains_nil, List.getD_cons_zero, Nat.add_zero, Nat.zero_lt_succ, tk3, tk24, dz24, aPos]
  exact ⟨fun h => ⟨h, fun h2 => by rw [h2, decide_eq_false (by omega)]; rfl⟩, rfl⟩
theorem calls_RLess (p q : Int × Int) : CallsR Tryd.prog 60 [aPos p, aPos q] [] (.bool (less p q)) [] := by
  refine callsR_of (mrg := true) (dyn := []) (CtrOK.nil _) mixed Tryd.func60 rfl (by simp [Tryd.ntmps60]) (by kernel_rfl) ?_
  rw [show Tryd.f60.results.toList = [.tmp 4] from by kernel_rfl]
  simp (maxSteps := 4000000) only [↓wpA_H, ↓wpH_ret, ↓wpH_seq, ↓wpH_region, bselH_false, runH_nil, runH_cons, gw, gselH_plain, gselH_if, kselH_0, kselH_1, gkind, ↓chk, pickO, justK, noW, ↓oneK, ↓pureK, ↓heapK, envOf, ↓thenA_normal, ↓stepEv, opnd, Pg.look, binK, intOp, dstOf, Bool.false_eq_true, implies_true, imp_self, true_and, and_true, pickC, pickV, unc, gof, mux, mergeK, condsL, valV, heapV, footV, binV, intV, mergeable, look_stripE, ofV, ofLeaf, sameK, retA, resK, tupA, subA, subQ, ptrsE, frzO, subF, subG, pickOf, frzE, frzC, frz0, frzH, Pg.freeze, List.foldl_nil, subOs, subEv, subV_succ, subM, ldCells, objAt, AV.cells, TK.cells, AV.definite, Op.operands, List.getElem?_toArray, List.getElem?_cons_succ, List.getElem?_cons_zero, Option.bind_some, Option.getD_some, reduceCtorEq, Nat.reduceEqDiff, Nat.reduceAdd, List.nil_append, List.append_nil, List.cons_append, List.length_cons, List.length_nil, Nat.zero_add, ite_true, ite_false, Option.some.injEq, Bool.if_false_right, Bool.if_true_left, Bool.decide_eq_true, decide_eq_true_eq, decide_eq_false_iff_not, Int.not_lt, Bool.and_self, and_self, Bool.not_eq_true', exists_eq_left', pickOK_nil, List.toList_toArray, List.contains_nil, List.getD_cons_zero, Nat.add_zero, Nat.zero_lt_succ, tk3, tk24, dz24, aPos]
  exact ⟨fun h => ⟨h, fun h2 => by rw [h2, decide_eq_false (by omega)]; rfl⟩, rfl⟩
end Go.Pg
