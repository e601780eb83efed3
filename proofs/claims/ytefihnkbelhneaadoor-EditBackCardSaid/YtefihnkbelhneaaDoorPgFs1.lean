/- Lists of strings are compared as they are. -/
import Derived.Test.YtefihnkbelhneaaDoorPgFacts
namespace Go.Pg
open Go Go.Proofs

theorem eq_of_takes {a b : List (List UInt8)} (h : a.length = b.length) (ht : a.take a.length = b.take a.length) : a = b := by
  rw [List.take_length] at ht
  rw [h, List.take_length] at ht
  exact ht

theorem take_succ_eq {a b : List (List UInt8)} {i : Nat} (h : a.take i = b.take i) (ha : i < a.length) (hb : i < b.length) (he : a.getD i [] = b.getD i []) : a.take (i + 1) = b.take (i + 1) := by
  simp only [List.getD_eq_getElem?_getD, List.getElem?_eq_getElem ha, List.getElem?_eq_getElem hb, Option.getD_some] at he
  rw [List.take_succ_eq_append_getElem ha, List.take_succ_eq_append_getElem hb, h, he]

theorem calls_Strings (a b : List (List UInt8)) (ha : a.length ≤ 140737488355328) (hb : b.length ≤ 140737488355328) :
    CallsR Tryd.prog 28 [.sl 1 (a.map .str), .sl 1 (b.map .str)] [] (.bool (a == b)) [] := by
  refine callsR_of (mrg := true) (dyn := []) (CtrOK.nil _) mixed Tryd.func28 rfl (by simp [Tryd.ntmps28]) (by kernel_rfl) ?_
  rw [show Tryd.f28.results.toList = [.tmp 4] from by kernel_rfl]
  simp (maxSteps := 4000000) only [↓wpA_H, ↓wpH_skip, ↓wpH_ret, ↓wpH_seq, ↓wpH_cond, ↓wpH_block, ↓wpH_loop, ↓wpH_region, iselH_if, bselH_false, runH_nil, runH_cons, gw, gselH_plain, cselH_bool, ↓chk, justK, ↓oneK, ↓pureK, envOf, ↓thenA_normal, ↓thenA_ret, ↓stepEv, opnd, Pg.look, binK, intOp, Bool.false_eq_true, implies_true, true_and, and_true, valV, heapV, footV, binV, intV, ofV, ofLeaf, retA, resK, tupA, subA, subQ, ptrsE, frzO, subF, subG, pickOf, frzE, frzC, frz0, frzH, Pg.freeze, List.foldl_nil, subOs, subEv, subV_succ, subM, slen, Option.getD_some, reduceCtorEq, Nat.reduceEqDiff, List.append_nil, List.length_nil, Nat.zero_add, ite_true, ite_false, Option.some.injEq, AV.int.injEq, and_self, exists_eq_left', pickOK_nil, List.length_map, List.contains_nil, tk22]
  refine ⟨fun h => ?_, fun h => ?_⟩
  · symm
    rw [beq_eq_false_iff_ne]
    intro e
    subst e
    simp at h
  have hlen : a.length = b.length := by
    simp at h
    omega
  refine loopH_intro (α := Nat) (fun i => ([(0, .sl 1 (a.map .str)), (1, .sl 1 (b.map .str)), (4, .bool false), (5, .int .i64 i)], [])) (fun i => i ≤ a.length ∧ a.take i = b.take i) (fun i => a.length - i) 0 ?_ ?_ ?_
  · simp
  · simp (maxSteps := 4000000) only [Pg.look, subA, subQ, ptrsE, frzO, subF, subG, pickOf, frzE, frzC, frz0, frzH, Pg.freeze, List.foldl_nil, subOs, subEv, subV_succ, subM, reduceCtorEq, Nat.reduceEqDiff, List.append_nil, ite_true, ite_false, and_self, pickOK_nil, Int.cast_ofNat_Int]
    all_goals simp
  · intro i hi
    simp (maxSteps := 4000000) only [↓wpA_H, ↓wpH_skip, ↓wpH_ret, ↓wpH_exit, ↓wpH_seq, ↓wpH_cond, ↓wpH_block, ↓wpH_region, iselH_if, bselH_false, runH_nil, runH_cons, gw, gselH_plain, cselH_bool, ↓chk, justK, noW, ↓oneK, ↓pureK, ↓heapK, ↓thenA_normal, ↓thenA_ret, ↓thenA_exit, ↓blockA_normal, ↓blockA_ret, ↓blockA_exit, ↓stepEv, opnd, Pg.look, binK, intOp, strOp, Bool.false_eq_true, implies_true, true_and, and_true, valV, heapV, footV, binV, intV, strV, ofV, ofLeaf, retA, resK, tupA, subA, subQ, ptrsE, frzO, subF, subG, pickOf, frzE, frzC, frz0, frzH, Pg.freeze, List.foldl_nil, subOs, subEv, subV_succ, subM, slen, ldCells, AV.cells, TK.cells, List.getElem?_cons_zero, Option.getD_some, reduceCtorEq, Nat.reduceEqDiff, List.append_nil, List.length_nil, ite_true, ite_false, Option.some.injEq, AV.int.injEq, decide_eq_true_eq, decide_eq_false_iff_not, Int.not_lt, and_self, Bool.not_eq_true', exists_eq_left', pickOK_nil, List.length_map, List.contains_nil, getD_str, Int.toNat_natCast, tk9, dz9, tk22]
    refine ⟨fun h1 => ⟨⟨by omega, by omega⟩, ⟨by omega, by omega⟩, fun h2 => ?_, fun h2 => ⟨i + 1, ⟨by omega, take_succ_eq hi.2 (by omega) (by omega) (by simpa using h2)⟩, by omega, by rw [wrap64 (by omega) (by omega)]; omega⟩⟩, fun h1 => ?_⟩
    · symm
      rw [beq_eq_false_iff_ne]
      intro e
      subst e
      simp at h2
    · symm
      rw [beq_iff_eq]
      have : i = a.length := by omega
      subst this
      exact eq_of_takes hlen hi.2

def kStrings : C1 := C1.by [.sl 1 [], .sl 1 []] (lCons cStrs (lOne cStrs)) (fun d => d.1.length ≤ 140737488355328 ∧ d.2.length ≤ 140737488355328) (fun d => .bool (d.1 == d.2)) (fun _ => [])
theorem ok_Strings : C1OK Tryd.prog 28 kStrings :=
  C1OK.by (by kernel_rfl) (fun d h => calls_Strings d.1 d.2 h.1 h.2) (fun _ => rfl) (fun _ => rfl)

end Go.Pg
