/- Changes told; copies of lists. -/
import Derived.Test.YtefihnkbelhneaaDoorPgFs2
import Derived.Test.YtefihnkbelhneaaDoorPgNil
namespace Go.Pg
open Go Go.Proofs

theorem calls_Clone (ls : List (List UInt8)) (hb : ls.length ≤ 4398046511104) : CallsR Tryd.prog 32 [.sl 1 (ls.map .str)] [] (.own 0 1 ls.length) [.arr 9 1 (ls.map .str)] := by
  refine callsR_ofW Tryd.func32 rfl (by simp [Tryd.ntmps32]) fun E hr => ?_
  rw [show Tryd.f32.results.toList = [.tmp 2] from by kernel_rfl]
  refine AWp.seq (wpA_sound (C := []) (mrg := true) (dyn := []) (CtrOK.nil _) mixed hr _ _ _ _ (by kernel_rfl) ?_)
  simp (maxSteps := 4000000) only [↓wpA_H, ↓wpH_region, bselH_false, runH_nil, runH_cons, gw, gselH_plain, ↓chk, justK, ↓oneK, ↓pureK, envOf, ↓thenA_normal, ↓stepEv, opnd, Bool.false_eq_true, implies_true, true_and, valV, heapV, footV, ofV, ofLeaf, List.length_nil, and_self, List.contains_nil]
  refine AWp.seq (AWp.seq (AWp.isNil (z := 1) (vs := ls.map .str) Tryd.underlying22 (by simp [Tryd.ntmps32]) (by simp [Tryd.ntmps32]) (by simp [Pg.look]) fun b hbn => ?_))
  refine wpA_sound (C := []) (mrg := true) (dyn := []) (CtrOK.nil _) mixed hr _ _ _ _ (by kernel_rfl) ?_
  simp (maxSteps := 4000000) only [↓wpA_H, ↓wpH_skip, ↓wpH_ret, ↓wpH_seq, ↓wpH_cond, ↓wpH_region, iselH_if, bselH_false, runH_nil, runH_cons, gw, gselH_plain, cselH_bool, ↓chk, justK, ↓oneK, ↓pureK, ↓thenA_normal, ↓thenA_ret, ↓stepEv, opnd, Pg.look, Bool.false_eq_true, implies_true, true_and, valV, heapV, footV, ofV, ofLeaf, reduceCtorEq, Nat.reduceEqDiff, ite_true, ite_false, and_self, List.contains_nil]
  refine ⟨fun hb1 => retA_S _ _ _ ?_, fun hb1 => wpA_sound (C := []) (mrg := true) (dyn := []) (CtrOK.nil _) mixed hr _ _ _ _ (by kernel_rfl) (wpA_mono _ _ _ _ _ (fun e ev H h => retA_S e ev H h) ?_)⟩
  · have h0 : ls = [] := by simpa using hbn hb1
    subst h0
    simp (maxSteps := 4000000) only [Pg.look, retA, resK, tupA, subA, subQ, ptrsE, pairsO, frzO, subF, subG, pickOf, assocN, pairsE, pairsC, pairs0, frzE, frzC, frz0, frzH, Pg.freeze, List.foldl_nil, subOs, subO, subEv, subV_succ, subM, List.getElem?_cons_zero, reduceCtorEq, Nat.reduceEqDiff, List.append_nil, List.length_nil, List.map_nil, ite_true, ite_false, and_self, pickOK_one, Nat.lt_irrefl]
  · simp (maxSteps := 4000000) only [↓wpA_H, ↓wpH_ret, ↓wpH_seq, ↓wpH_region, bselH_false, runH_nil, runH_cons, gw, gselH_plain, ↓chk, justK, noW, ↓oneK, ↓pureK, ↓heapK, ↓thenA_normal, ↓stepEv, opnd, Pg.look, Bool.false_eq_true, implies_true, true_and, and_true, valV, heapV, footV, ofV, ofLeaf, retA, resK, tupA, subA, subQ, ptrsE, pairsO, frzO, subF, subG, pickOf, assocN, pairsE, pairsC, pairs0, frzE, frzC, frz0, frzH, Pg.freeze, List.foldl_nil, subOs, subO, subEv, subV_succ, subM, srcV, srcE, appK, AV.cells, AV.definite, List.getElem?_cons_zero, reduceCtorEq, Nat.reduceEqDiff, List.nil_append, List.append_nil, List.length_nil, List.map_nil, List.set_cons_zero, Nat.zero_add, ite_true, ite_false, Option.isSome_some, not_false_eq_true, List.all_nil, and_self, pickOK_one, List.length_map, not_mem_nil, List.range_zero, leafy_strs, List.contains_nil, Nat.reducePow, Nat.lt_irrefl, Nat.mul_one, Nat.zero_le, eb9, tk22]
    exact ⟨by omega, .inl ⟨rfl, pureB_strs ls⟩⟩

def kClone : C1 := C1.by [.sl 1 []] (lOne cStrs) (fun d => d.length ≤ 4398046511104) (fun d => .own 0 1 d.length) (fun d => [.arr 9 1 (d.map .str)])
theorem ok_Clone : C1OK Tryd.prog 32 kClone :=
  C1OK.by (by kernel_rfl) (fun d h => calls_Clone d h) (fun _ => rfl) (fun _ => by simp [okObj, AV.pureB, AV.cells, AV.pureLeaf])

theorem calls_changed (ls new : List (List UInt8)) (i n : Int) (h1 : 0 ≤ i) (h2 : 0 ≤ n) (h3 : i + n ≤ ls.length) (hb : ls.length ≤ 4398046511104) :
    CallsR Tryd.prog 33 [.sl 1 (ls.map .str), .int .i64 i, .int .i64 n, .sl 1 (new.map .str)] []
      (.agg [.int .i64 i, .sl 1 ((cutL ls i.toNat (i + n).toNat).map .str), .sl 1 (new.map .str)]) [] := by
  refine callsR_of (mrg := true) (dyn := []) (CtrOK.cons ok_Clone (CtrOK.nil _)) mixed Tryd.func33 rfl (by simp [Tryd.ntmps33]) (by kernel_rfl) ?_
  rw [show Tryd.f33.results.toList = [.cell 8 31] from by kernel_rfl]
  simp (maxSteps := 4000000) only [↓wpA_H, ↓wpH_ret, ↓wpH_seq, ↓wpH_region, bselH_false, runH_nil, runH_cons, gw, gselH_plain, ↓chk, justK, noW, ↓oneK, ↓pureK, ↓heapK, envOf, ↓thenA_normal, ↓stepEv, opnd, Pg.look, binK, intOp, Bool.false_eq_true, implies_true, true_and, and_true, valV, heapV, footV, binV, intV, cutV, ofV, ofLeaf, retA, resK, tupA, subA, subQ, ptrsE, frzO, subF, subG, pickOf, frzE, frzC, frzL, frz0, frzH, Pg.freeze, List.foldl_nil, List.foldl_cons, subOs, subEv, subV_succ, subM, subL, ldCells, objAt, sliceL, ↓callT, callC, callV, callH, normArgs, normA, normC, resL, res8_eq, res_succ, resM, shiftR, shift1, AV.cells, TK.cells, AV.definite, AV.leaf, AV.leafy, putCells, lay, buildL, frzAt, List.getElem?_cons_succ, List.getElem?_cons_zero, Option.map_some, Option.map_none, Option.getD_some, reduceCtorEq, Nat.reduceEqDiff, Nat.reduceAdd, List.nil_append, List.append_nil, List.cons_append, List.length_cons, List.length_nil, List.map_cons, List.map_nil, List.set_cons_zero, List.set_cons_succ, Nat.zero_add, ite_true, ite_false, Option.some.injEq, Option.isSome_some, AV.sl.injEq, AV.agg.injEq, List.all_cons, List.all_nil, Bool.and_self, and_self, exists_eq_left', pickOK_nil, List.length_map, cSl_dec, lOne_dec, pureB_strs, resIn, List.contains_cons, List.contains_nil, Bool.or_false, beq_self_eq_true, decL_str, C1by_ns, C1by_pre, C1by_r, C1by_H, optP_some, optV_some, optH_some, ← List.map_drop, ← List.map_take, List.getD_cons_zero, cutL, List.drop_zero, List.drop_succ_cons, List.take_succ_cons, List.take_zero, Nat.add_zero, Nat.sub_zero, Nat.reduceLeDiff, Nat.le_refl, List.drop_nil, List.take_nil, Nat.zero_lt_succ, tk22, tk31, tz31, dz31, kClone]
  have hw : IntKind.i64.wrap (i + n) = i + n := wrap64 (by omega) (by omega)
  rw [hw]
  refine ⟨⟨h1, by omega, h3⟩, ?_, rfl⟩
  rw [List.length_take, List.length_drop]
  omega

end Go.Pg
