/- Changes of each of some lines. -/
import Derived.Test.YtefihnkbelhneaaDoorPgFs41
import Derived.Test.YtefihnkbelhneaaDoorPgFs5
namespace Go.Pg
open Go Go.Proofs

/-- Each of the lines from one to another. -/
def eachL (f t : Int) (g : Int → List UInt8) : Ls := (List.range (t + 1 - f).toNat).map fun k : Nat => g (f + k)

/-- A closure that is handed a line's number. -/
def kLineFn (caps : List AV) (f t : Int) (g : Int → List UInt8) : C1 := ⟨[], fun l => match l with
  | .int .i64 i :: r => f ≤ i ∧ i ≤ t ∧ r = caps
  | _ => False, fun l => match l with
  | .int .i64 i :: _ => .str (g i)
  | _ => .top, fun _ => []⟩

theorem kLineFn_ok {P : Program} {fid : Nat} {caps : List AV} {f t : Int} {g : Int → List UInt8} (hc : cal P fid = true)
    (hg : ∀ i : Int, f ≤ i → i ≤ t → CallsR P fid (.int .i64 i :: caps) [] (.str (g i)) []) : C1OK P fid (kLineFn caps f t g) := by
  refine ⟨hc, fun l h => ?_⟩
  simp only [kLineFn] at h ⊢
  split at h
  · next i r =>
    obtain ⟨a, b, rfl⟩ := h
    exact ⟨hg i a b, rfl, rfl⟩
  · exact h.elim

set_option maxHeartbeats 4000000 in
theorem calls_each (ls : Ls) (f t : Int) (fid : Nat) (caps : List AV) (g : Int → List UInt8) (h0 : 0 ≤ f) (h1 : f ≤ t + 1) (h2 : t < ls.length) (hs : ls.length ≤ 1099511627776)
    (hne : (33 = fid) = False) (hp : PureCaps caps)
    (hk : C1OK Tryd.prog fid (kLineFn caps f t g)) :
    CallsR Tryd.prog 42 [.sl 1 (ls.map .str), .int .i64 f, .int .i64 t, .fn fid caps] [] (aCh (f, cutL ls f.toNat (t + 1).toNat, eachL f t g)) [] := by
  obtain ⟨p1, p0, p2, p3, p4⟩ := hp
  refine callsR_of (mrg := true) (dyn := []) (CtrOK.cons hk (CtrOK.cons ok_changed (CtrOK.nil _))) mixed Tryd.func42 rfl (by simp [Tryd.ntmps42]) (by kernel_rfl) ?_
  rw [show Tryd.f42.results.toList = [.cell 8 31] from by kernel_rfl]
  simp (maxSteps := 4000000) only [↓wpA_H, ↓wpH_seq, ↓wpH_block, ↓wpH_loop, ↓wpH_region, bselH_false, runH_nil, runH_cons, gw, gselH_plain, ↓chk, justK, noW, ↓oneK, ↓pureK, ↓heapK, envOf, ↓thenA_normal, ↓stepEv, opnd, Pg.look, Bool.false_eq_true, implies_true, true_and, valV, heapV, footV, ofV, ofLeaf, AV.cells, AV.definite, reduceCtorEq, Nat.reduceEqDiff, Nat.reduceAdd, List.nil_append, List.length_cons, List.length_nil, Nat.zero_add, ite_true, ite_false, and_self, List.contains_nil, cutL, tz31, kChanged]
  refine loopH_intro (α := Nat) (fun k => ([(0, .sl 1 (ls.map .str)), (1, .int .i64 f), (2, .int .i64 t), (3, .fn fid caps), (8, .ptr 0 3 1 0 0), (9, .own 1 1 k), (10, .int .i64 (f + k))], [.arr 31 3 [.agg [.int .i64 0, .nls, .nls]], .arr 9 1 (((List.range k).map fun j : Nat => g (f + j)).map .str)])) (fun k => f + k ≤ t + 1) (fun k => (t + 1 - f).toNat - k) 0 (by omega) ?_ ?_
  · simp (maxSteps := 4000000) only [Pg.look, true_and, and_true, subA, subQ, ptrsE, pairsO, frzO, subF, subG, pickOf, assocN, pairsE, pairsC, pairsL, pairs0, frzE, frzC, frzL, frz0, frzH, Pg.freeze, List.foldl_nil, subOs, subO, subEv, subV_succ, subM, List.getElem?_cons_succ, List.getElem?_cons_zero, reduceCtorEq, Nat.reduceEqDiff, List.nil_append, List.append_nil, List.cons_append, List.map_nil, Nat.zero_add, ite_true, ite_false, and_self, List.range_zero, Int.cast_ofNat_Int, Nat.lt_irrefl, Nat.not_lt_zero, ↓p2, ↓p3, ↓p4]
    exact ⟨rfl, subX_eq rfl rfl, by omega⟩
  intro k hk2
  have hrl : (List.range k).length = k := List.length_range
  by_cases hlt : f + k ≤ t
  · have hct : decide (f + (k : Int) ≤ t) = true := decide_eq_true hlt
    simp (maxSteps := 4000000) only [↓wpA_H, ↓wpH_skip, ↓wpH_seq, ↓wpH_cond, ↓wpH_block, ↓wpH_region, ↓iselH_true, bselH_false, runH_nil, runH_cons, gw, gselH_plain, cselH_bool, ↓chk, justK, noW, ↓oneK, ↓pureK, ↓heapK, ↓thenA_normal, ↓blockA_normal, ↓stepEv, opnd, Pg.look, binK, intOp, Bool.false_eq_true, false_implies, implies_true, true_and, and_true, valV, heapV, footV, binV, intV, ofV, ofLeaf, subA, subQ, ptrsE, pairsO, frzO, subF, subG, pickOf, assocN, pairsE, pairsC, pairsL, pairs0, frzE, frzC, frzL, frz0, frzH, Pg.freeze, List.foldl_nil, subOs, subO, subEv, subV_succ, subM, srcV, srcE, appK, objAt, ↓callT, callC, callV, callH, normArgs, normA, normC, resL, res8_eq, res_succ, resM, shiftR, shift1, AV.cells, AV.definite, AV.leaf, AV.leafy, List.getElem?_cons_succ, List.getElem?_cons_zero, reduceCtorEq, Nat.reduceEqDiff, Nat.reduceAdd, List.nil_append, List.append_nil, List.cons_append, List.length_cons, List.length_nil, List.map_cons, List.map_nil, List.set_cons_zero, List.set_cons_succ, Nat.zero_add, ite_true, ite_false, Option.isSome_some, Prod.mk.injEq, List.all_cons, List.all_nil, Bool.and_self, and_self, List.length_map, rg1, lCons_dec, app1_str, List.contains_nil, beq_self_eq_true, List.range'_zero, Nat.reducePow, C1by_ns, C1by_pre, C1by_r, C1by_H, cutL, Nat.reduceLeDiff, Nat.lt_irrefl, Nat.mul_one, Nat.not_lt_zero, eb9, tk22, kChanged, ↓p0, ↓p2, ↓p3, ↓p4, hct, kLineFn, eq_self, hrl]
    exact ⟨⟨by omega, hlt⟩, ⟨by decide, by omega⟩, k + 1, by omega, by omega, rfl, ⟨subX_eq rfl rfl, subX_eq (by rw [List.range_succ]; simp) (pureB_strs _)⟩, rfl, by rw [wrap64 (by omega) (by omega)]; omega⟩
  · have hcf : decide (f + (k : Int) ≤ t) = false := decide_eq_false hlt
    have w1 : IntKind.i64.wrap (IntKind.i64.wrap (t - f) + 1) = t - f + 1 := by rw [wrap64 (n := t - f) (by omega) (by omega), wrap64 (by omega) (by omega)]
    have hn : (t + 1 - f).toNat = k := by omega
    simp (maxSteps := 4000000) only [↓wpA_H, ↓wpH_ret, ↓wpH_exit, ↓wpH_seq, ↓wpH_cond, ↓wpH_region, ↓iselH_false, bselH_false, runH_nil, runH_cons, gw, gselH_plain, cselH_bool, ↓chk, justK, ↓oneK, ↓pureK, ↓heapK, ↓thenA_normal, ↓thenA_exit, ↓blockA_exit, ↓stepEv, opnd, Pg.look, binK, intOp, Bool.false_eq_true, false_implies, implies_true, true_and, and_true, valV, heapV, footV, binV, intV, ofV, ofLeaf, retA, resK, tupA, subA, subQ, ptrsE, frzO, subF, subG, pickOf, frzE, frzC, frzL, frz0, frzH, Pg.freeze, List.foldl_nil, List.foldl_cons, subOs, subEv, subV_succ, subM, subL, ldCells, objAt, ↓callT, callC, callV, callH, normArgs, normA, normC, resL, res8_eq, res_succ, resM, shiftR, shift1, AV.cells, TK.cells, AV.leaf, AV.leafy, putCells, lay, frzAt, List.getElem?_cons_succ, List.getElem?_cons_zero, reduceCtorEq, Nat.reduceEqDiff, Nat.reduceAdd, List.nil_append, List.append_nil, List.cons_append, List.length_cons, List.length_nil, List.map_cons, List.map_nil, List.set_cons_zero, List.set_cons_succ, Nat.zero_add, ite_true, ite_false, Option.some.injEq, Prod.mk.injEq, List.all_cons, List.all_nil, Bool.and_self, and_self, exists_eq_left', pickOK_nil, List.length_map, cInt_dec, cSl_dec, lOne_dec, lCons_dec, dec2_some, pureB_strs, List.contains_nil, List.range'_zero, decL_str, C1by_ns, C1by_pre, C1by_r, C1by_H, optP_some, optV_some, optH_some, List.getD_cons_zero, cutL, List.drop_zero, List.drop_succ_cons, List.take_succ_cons, List.take_zero, Nat.sub_zero, Nat.le_refl, List.drop_nil, List.take_nil, Nat.zero_lt_succ, tk31, dz31, aCh, kChanged, hcf, hne, hrl, w1]
    exact ⟨⟨h0, by omega, by omega, by omega⟩, by rw [show f + (t - f + 1) = t + 1 by omega], by rw [eachL, hn]⟩
end Go.Pg
