/- Changes are made. -/
import Derived.Test.YtefihnkbelhneaaDoorPgFs7
namespace Go.Pg
open Go Go.Proofs

theorem calls_Same (a b : Ls) (ha : a.length ≤ 140737488355328) (hb : b.length ≤ 140737488355328) :
    CallsR Tryd.prog 58 [.sl 1 (a.map .str), .sl 1 (b.map .str)] [] (.bool (a == b)) [] := by
  refine callsR_of (mrg := true) (dyn := []) (CtrOK.nil _) mixed Tryd.func58 rfl (by simp [Tryd.ntmps58]) (by kernel_rfl) ?_
  rw [show Tryd.f58.results.toList = [.tmp 4] from by kernel_rfl]
  simp (maxSteps := 4000000) only [↓wpA_H, ↓wpH_skip, ↓wpH_ret, ↓wpH_seq, ↓wpH_cond, ↓wpH_block, ↓wpH_loop, ↓wpH_region, iselH_if, bselH_false, runH_nil, runH_cons, gw, gselH_plain, cselH_bool, ↓chk, justK, ↓oneK, ↓pureK, envOf, ↓thenA_normal, ↓thenA_ret, ↓stepEv, opnd, Pg.look, binK, intOp, Bool.false_eq_true, implies_true, true_and, and_true, valV, heapV, footV, binV, intV, ofV, ofLeaf, retA, resK, tupA, subA, subQ, ptrsE, frzO, subF, subG, pickOf, frzE, frzC, frz0, frzH, Pg.freeze, List.foldl_nil, subOs, subEv, subV_succ, subM, slen, Option.getD_some, reduceCtorEq, Nat.reduceEqDiff, List.append_nil, List.length_nil, Nat.zero_add, ite_true, ite_false, Option.some.injEq, AV.int.injEq, and_self, exists_eq_left', pickOK_nil, List.length_map, List.contains_nil, tk22]
  refine ⟨fun h => ?_, fun h => ?_⟩
  · symm
    rw [beq_eq_false_iff_ne]
    intro e
    subst e
    simp at h
  have hlen : a.length = b.length := by
    simp at h
    omega
  refine loopH_intro (α := Nat) (fun i => ([(0, .sl 1 (a.map .str)), (1, .sl 1 (b.map .str)), (4, .bool false), (5, .int .i64 i)], [])) (fun i => i ≤ a.length ∧ a.take i = b.take i) (fun i => a.length - i) 0 ?_ ?_ ?_
  · simp
  · simp (maxSteps := 4000000) only [Pg.look, subA, subQ, ptrsE, frzO, subF, subG, pickOf, frzE, frzC, frz0, frzH, Pg.freeze, List.foldl_nil, subOs, subEv, subV_succ, subM, reduceCtorEq, Nat.reduceEqDiff, List.append_nil, ite_true, ite_false, and_self, pickOK_nil, Int.cast_ofNat_Int]
    all_goals simp
  · intro i hi
    simp (maxSteps := 4000000) only [↓wpA_H, ↓wpH_skip, ↓wpH_ret, ↓wpH_exit, ↓wpH_seq, ↓wpH_cond, ↓wpH_block, ↓wpH_region, iselH_if, bselH_false, runH_nil, runH_cons, gw, gselH_plain, cselH_bool, ↓chk, justK, noW, ↓oneK, ↓pureK, ↓heapK, ↓thenA_normal, ↓thenA_ret, ↓thenA_exit, ↓blockA_normal, ↓blockA_ret, ↓blockA_exit, ↓stepEv, opnd, Pg.look, binK, intOp, strOp, Bool.false_eq_true, implies_true, true_and, and_true, valV, heapV, footV, binV, intV, strV, ofV, ofLeaf, retA, resK, tupA, subA, subQ, ptrsE, frzO, subF, subG, pickOf, frzE, frzC, frz0, frzH, Pg.freeze, List.foldl_nil, subOs, subEv, subV_succ, subM, slen, ldCells, AV.cells, TK.cells, List.getElem?_cons_zero, Option.getD_some, reduceCtorEq, Nat.reduceEqDiff, List.append_nil, List.length_nil, ite_true, ite_false, Option.some.injEq, AV.int.injEq, decide_eq_true_eq, decide_eq_false_iff_not, Int.not_lt, and_self, Bool.not_eq_true', exists_eq_left', pickOK_nil, List.length_map, List.contains_nil, getD_str, Int.toNat_natCast, tk9, dz9, tk22]
    refine ⟨fun h1 => ⟨⟨by omega, by omega⟩, ⟨by omega, by omega⟩, fun h2 => ?_, fun h2 => ⟨i + 1, ⟨by omega, take_succ_eq hi.2 (by omega) (by omega) (by simpa using h2)⟩, by omega, by rw [wrap64 (by omega) (by omega)]; omega⟩⟩, fun h1 => ?_⟩
    · symm
      rw [beq_eq_false_iff_ne]
      intro e
      subst e
      simp at h2
    · symm
      rw [beq_iff_eq]
      have : i = a.length := by omega
      subst this
      exact eq_of_takes hlen hi.2

theorem ok_Same : C1OK Tryd.prog 58 kStrings :=
  C1OK.by (by kernel_rfl) (fun d h => calls_Same d.1 d.2 h.1 h.2) (fun _ => rfl) (fun _ => rfl)

abbrev Ch := Int × Ls × Ls

/-- One change is made. -/
def apply1 (ls : Ls) (x : Ch) : Ls × Bool :=
  if decide (x.1 < 0) || decide (x.1 > ls.length) || decide ((x.2.1.length : Int) > ls.length - x.1) || !(cutL ls x.1.toNat (x.1 + x.2.1.length).toNat == x.2.1) || ((ls.length : Int) - x.2.1.length + x.2.2.length == 0) then ([], false)
  else (ls.take x.1.toNat ++ x.2.2 ++ ls.drop (x.1.toNat + x.2.1.length), true)

set_option maxRecDepth 20000 in
set_option maxHeartbeats 4000000 in
theorem calls_one (ls : Ls) (x : Ch) (h1 : ls.length ≤ 2199023255552) (h2 : x.2.1.length ≤ 2199023255552) (h3 : x.2.2.length ≤ 2199023255552) :
    CallsR Tryd.prog 40 [.sl 1 (ls.map .str), aCh x] [] (.tuple [.sl 1 ((apply1 ls x).1.map .str), .bool (apply1 ls x).2]) [] := by
  obtain ⟨i, o, n⟩ := x
  refine callsR_of (mrg := true) (dyn := [4]) (CtrOK.cons ok_Same (CtrOK.nil _)) mixed Tryd.func40 rfl (by simp [Tryd.ntmps40]) (by kernel_rfl) ?_
  rw [show Tryd.f40.results.toList = [.tmp 4, .tmp 5] from by kernel_rfl]
  simp (maxSteps := 4000000) only [↓wpA_H, ↓wpH_skip, ↓wpH_ret, ↓wpH_seq, ↓wpH_cond, ↓wpH_region, bselH_true, iselH_if, bselH_false, runH_nil, runH_cons, gw, gselH_plain, gselH_if, kselH_1, cselH_bool, gkind, ↓chk, justK, noW, ↓oneK, ↓pureK, ↓heapK, envOf, ↓thenA_normal, ↓thenA_ret, ↓stepEv, opnd, Pg.look, binK, intOp, dstOf, Bool.false_eq_true, implies_true, imp_self, true_and, and_true, forall_const, pickC, pickV, unc, gof, mux, mergeK, condsL, valV, heapV, footV, binV, intV, cutV, mergeable, look_stripE, ofV, ofLeaf, sameK, retA, resK, tupA, subA, subQ, ptrsE, frzO, subF, subG, pickOf, frzE, frzC, frzL, frz0, frzH, Pg.freeze, List.foldl_nil, List.foldl_cons, subOs, subEv, subV_succ, subM, subL, slen, srcV, srcE, appK, ldCells, objAt, sliceL, ↓callT, callC, callV, normArgs, normA, normC, resL, res8_eq, res_succ, resM, shiftR, shift1, AV.cells, TK.cells, AV.definite, frzAt, Op.operands, Call.operands, Array.toList_append, List.getElem?_toArray, List.getElem?_cons_succ, List.getElem?_cons_zero, Option.bind_some, Option.map_some, Option.map_none, Option.getD_some, reduceCtorEq, Nat.reduceEqDiff, Nat.reduceAdd, List.nil_append, List.append_nil, List.cons_append, List.length_cons, List.length_nil, List.map_cons, List.map_nil, List.set_cons_zero, List.set_cons_succ, Nat.zero_add, ite_true, ite_false, Option.some.injEq, AV.int.injEq, AV.sl.injEq, Bool.if_true_left, Bool.decide_eq_true, decide_eq_true_eq, decide_eq_false_iff_not, Int.not_lt, not_false_eq_true, List.all_cons, List.all_nil, Bool.and_self, and_self, Bool.not_eq_true', exists_eq_left', pickOK_nil, List.length_map, Option.toArray_some, Option.toArray_none, List.toList_toArray, List.length_append, not_mem_nil, app_strs, cSl_dec, lOne_dec, lCons_dec, dec2_some, pureB_strs, leafy_strs, resIn, List.contains_cons, List.contains_nil, Nat.reduceBEq, Bool.or_self, Bool.or_false, beq_self_eq_true, List.range'_zero, decL_str, C1by_ns, C1by_pre, C1by_r, C1by_H, optP_some, optV_some, optH_some, ← List.map_drop, ← List.map_take, List.getD_cons_zero, cutL, Nat.add_zero, Nat.zero_lt_succ, tk3, eb9, tk22, tk31, dz31, kStrings, aCh]
  simp only at h2 h3
  by_cases hi : 0 ≤ i ∧ i ≤ ls.length
  · obtain ⟨hi1, hi2⟩ := hi
    rw [wrap64 (n := (ls.length : Int) - i) (by omega) (by omega), wrap64 (n := i + (o.length : Int)) (by omega) (by omega), wrap64 (n := (ls.length : Int) - o.length) (by omega) (by omega), wrap64 (n := (ls.length : Int) - o.length + n.length) (by omega) (by omega)]
    have hk : (i + (o.length : Int)).toNat = i.toNat + o.length := by omega
    have hcut : ∀ k, (ls.take k).length ≤ ls.length ∧ (ls.drop k).length ≤ ls.length := fun k => by simp only [List.length_take, List.length_drop]; omega
    refine ⟨fun h => ⟨h, ?_⟩, fun h => ⟨h, ?_, by omega⟩, fun h => ?_, fun h => ?_⟩
    · simp only [Bool.or_eq_false_iff, decide_eq_false_iff_not] at h
      omega
    · rw [List.length_take, List.length_drop]; omega
    · have e : apply1 ls (i, o, n) = ([], false) := if_pos h
      rw [e]
      exact ⟨rfl, rfl⟩
    · have e : apply1 ls (i, o, n) = _ := if_neg (by rw [Bool.not_eq_true]; exact h)
      rw [e, hk]
      have c1 := hcut i.toNat
      have c2 := hcut (i.toNat + o.length)
      simp only [Bool.or_eq_false_iff, decide_eq_false_iff_not] at h
      exact ⟨by omega, by omega, by omega, by omega, by omega, rfl, rfl, rfl⟩
  · have hb : (decide (i < 0) || decide (i > (ls.length : Int))) = true := by
      simp only [Bool.or_eq_true, decide_eq_true_eq]; omega
    have e : apply1 ls (i, o, n) = ([], false) := if_pos (by simp only [hb, Bool.true_or])
    simp only [hb, Bool.true_or, e]
    simp

def kOne : C1 := C1.by [.sl 1 [], .ag [none, some 1, some 1]] (lCons cStrs (lOne (cAgg (lCons (cInt .i64) (lCons cStrs (lOne cStrs))))))
  (fun d => d.1.length ≤ 2199023255552 ∧ d.2.2.1.length ≤ 2199023255552 ∧ d.2.2.2.length ≤ 2199023255552)
  (fun d => .tuple [.sl 1 ((apply1 d.1 d.2).1.map .str), .bool (apply1 d.1 d.2).2]) (fun _ => [])
theorem ok_one : C1OK Tryd.prog 40 kOne := C1OK.by (by kernel_rfl) (fun d h => calls_one d.1 d.2 h.1 h.2.1 h.2.2) (fun _ => rfl) (fun _ => rfl)

/-- Changes are made, one behind another. -/
def applyL (ls : Ls) : List Ch → Ls × Bool
  | [] => (ls, true)
  | c :: r => if (apply1 ls c).2 = true then applyL (apply1 ls c).1 r else ([], false)

theorem apply1_len (ls : Ls) (x : Ch) : (apply1 ls x).1.length ≤ ls.length + x.2.2.length := by
  unfold apply1
  split
  · simp
  · simp only [List.length_append, List.length_take, List.length_drop]; omega

set_option maxHeartbeats 4000000 in
theorem calls_Apply (ls : Ls) (l : List Ch) (h1 : ls.length ≤ 1048576) (h2 : l.length ≤ 1048576) (h3 : ∀ x ∈ l, x.2.1.length ≤ 1048576 ∧ x.2.2.length ≤ 1048576) :
    CallsR Tryd.prog 21 [.sl 1 (ls.map .str), .sl 3 (l.map aCh)] [] (.tuple [.sl 1 ((applyL ls l).1.map .str), .bool (applyL ls l).2]) [] := by
  refine callsR_of (mrg := true) (dyn := []) (CtrOK.cons ok_one (CtrOK.nil _)) mixed Tryd.func21 rfl (by simp [Tryd.ntmps21]) (by kernel_rfl) ?_
  rw [show Tryd.f21.results.toList = [.tmp 4, .tmp 5] from by kernel_rfl]
  simp (maxSteps := 4000000) only [↓wpA_H, ↓wpH_seq, ↓wpH_block, ↓wpH_loop, ↓wpH_region, bselH_false, runH_nil, runH_cons, gw, gselH_plain, ↓chk, justK, ↓oneK, ↓pureK, ↓heapK, envOf, ↓thenA_normal, ↓stepEv, opnd, Pg.look, Bool.false_eq_true, implies_true, true_and, and_true, valV, heapV, footV, ofV, ofLeaf, srcV, srcE, appK, reduceCtorEq, Nat.reduceEqDiff, List.nil_append, List.length_nil, Nat.zero_add, ite_true, ite_false, and_self, List.length_map, List.contains_nil, eb9, tk22, kOne]
  refine ⟨by omega, ?_⟩
  refine loopH_intro (α := Nat × Ls) (fun x => ([(0, .sl 1 (ls.map .str)), (1, .sl 3 (l.map aCh)), (4, .nls), (5, .bool false), (6, .sl 1 (x.2.map .str)), (7, .int .i64 x.1)], []))
    (fun x => x.1 ≤ l.length ∧ x.2.length ≤ 1048576 * (x.1 + 1) ∧ applyL x.2 (l.drop x.1) = applyL ls l) (fun x => l.length - x.1) (0, ls) ?_ ?_ ?_
  · simp; omega
  · simp (maxSteps := 4000000) only [Pg.look, subA, subQ, ptrsE, frzO, subF, subG, pickOf, frzE, frzC, frz0, frzH, Pg.freeze, List.foldl_nil, List.foldl_cons, subOs, subEv, subV_succ, subM, objAt, res_succ, resM, frzAt, List.getElem?_cons_zero, reduceCtorEq, Nat.reduceEqDiff, List.nil_append, List.append_nil, List.set_cons_zero, ite_true, ite_false, List.all_cons, List.all_nil, Bool.and_self, and_self, pickOK_nil, List.length_map, pureB_strs, resIn, List.contains_cons, List.contains_nil, Bool.or_false, beq_self_eq_true, Int.cast_ofNat_Int]
    all_goals simp
  · intro x hx
    obtain ⟨i, out⟩ := x
    simp only at hx
    simp (maxSteps := 4000000) only [↓wpA_H, ↓wpH_skip, ↓wpH_ret, ↓wpH_exit, ↓wpH_seq, ↓wpH_cond, ↓wpH_block, ↓wpH_region, iselH_if, bselH_false, runH_nil, runH_cons, gw, gselH_plain, cselH_bool, ↓chk, justK, noW, ↓oneK, ↓pureK, ↓heapK, ↓thenA_normal, ↓thenA_ret, ↓thenA_exit, ↓blockA_normal, ↓blockA_ret, ↓blockA_exit, ↓stepEv, opnd, Pg.look, binK, intOp, Bool.false_eq_true, implies_true, true_and, and_true, valV, heapV, footV, binV, intV, ofV, ofLeaf, retA, resK, tupA, subA, subQ, ptrsE, frzO, subF, subG, pickOf, frzE, frzC, frzL, frz0, frzH, Pg.freeze, List.foldl_nil, subOs, subEv, subV_succ, subM, subL, slen, ldCells, ↓callT, callC, callV, callH, normArgs, normA, normC, normL, resL, res8_eq, res_succ, resM, shiftR, shift1, AV.cells, TK.cells, List.getElem?_cons_succ, List.getElem?_cons_zero, Option.getD_some, reduceCtorEq, Nat.reduceEqDiff, Nat.reduceAdd, List.append_nil, List.length_cons, List.length_nil, List.map_cons, List.map_nil, Nat.zero_add, ite_true, ite_false, Option.some.injEq, AV.int.injEq, decide_eq_true_eq, decide_eq_false_iff_not, Int.not_lt, and_self, Bool.not_eq_true', exists_eq_left', pickOK_nil, List.length_map, cInt_dec, cSl_dec, cAgg_dec, lOne_dec, lCons_dec, dec2_some, List.contains_nil, List.range'_zero, decL_str, C1by_ns, C1by_pre, C1by_r, C1by_H, optP_some, optV_some, optH_some, Int.toNat_natCast, cutL, List.drop_zero, List.take_succ_cons, Nat.sub_zero, Nat.le_refl, List.take_nil, tk31, dz31, tk45, kOne, getD_ch, aCh]
    refine ⟨fun hi => ?_, fun hi => ?_⟩
    · have hi' : i < l.length := by omega
      have hd : l.drop i = l.getD i (0, [], []) :: l.drop (i + 1) := by
        rw [List.drop_eq_getElem_cons hi', List.getD_eq_getElem?_getD, List.getElem?_eq_getElem hi']
        rfl
      have hy := h3 (l.getD i (0, [], [])) (by rw [List.getD_eq_getElem?_getD, List.getElem?_eq_getElem hi']; simp)
      have hx3 := hx.2.2
      have hlen := apply1_len out (l.getD i (0, [], []))
      rw [hd, applyL] at hx3
      have ht : (l.getD i (0, [], [])).1 = (l.getD i (0, [], [])).1 := rfl
      refine ⟨by omega, ⟨by omega, by omega, by omega⟩, fun h4 => ?_, fun h4 => ?_⟩
      · rw [if_neg (by rw [Bool.not_eq_true]; exact h4)] at hx3
        rw [← hx3]
        exact ⟨rfl, rfl⟩
      · rw [Bool.not_eq_false'] at h4
        rw [if_pos h4] at hx3
        refine ⟨(i + 1, (apply1 out (l.getD i (0, [], []))).1), ⟨by show i + 1 ≤ _; omega, ?_, hx3⟩, by show _ - (i + 1) < _; omega, rfl, by rw [wrap64 (by omega) (by omega)]; rfl⟩
        show (apply1 out (l.getD i (0, [], []))).1.length ≤ 1048576 * (i + 1 + 1)
        omega
    · have hx3 := hx.2.2
      rw [List.drop_eq_nil_of_le (by omega), applyL] at hx3
      rw [← hx3]
      exact ⟨rfl, rfl⟩

def kApply : C1 := C1.by [.sl 1 [], .sl 3 [none, some 1, some 1]] (lCons cStrs (lOne (cSl 3 (cAgg (lCons (cInt .i64) (lCons cStrs (lOne cStrs)))))))
  (fun d => d.1.length ≤ 1048576 ∧ d.2.length ≤ 1048576 ∧ ∀ x ∈ d.2, x.2.1.length ≤ 1048576 ∧ x.2.2.length ≤ 1048576)
  (fun d => .tuple [.sl 1 ((applyL d.1 d.2).1.map .str), .bool (applyL d.1 d.2).2]) (fun _ => [])
theorem ok_Apply : C1OK Tryd.prog 21 kApply := C1OK.by (by kernel_rfl) (fun d h => calls_Apply d.1 d.2 h.1 h.2.1 h.2.2) (fun _ => rfl) (fun _ => rfl)

end Go.Pg
