/- A range is taken out. -/
import Derived.Test.YtefihnkbelhneaaDoorPgFs42
namespace Go.Pg
open Go Go.Proofs

/-- What is left of a line. -/
def cutLine (ls : Ls) (r : Rg) (i : Int) : List UInt8 := (ls.getD i.toNat []).take (cols (ls.getD i.toNat []).length r i).1.toNat ++ (ls.getD i.toNat []).drop (cols (ls.getD i.toNat []).length r i).2.toNat

theorem valid_to {ls : Ls} {r : Rg} (h : valid ls r = true) : (r.1 == 2) = true → 0 ≤ r.2.2.2.2 := by
  intro h2
  obtain ⟨k, f1, f2, t1, t2⟩ := r
  simp only [beq_iff_eq] at h2
  subst h2
  simp [valid] at h
  show 0 ≤ t2
  omega

set_option maxHeartbeats 4000000 in
theorem calls_Cut1 (ls : Ls) (r : Rg) (i : Int) (h1 : r.2.1 ≤ i) (h2 : i ≤ r.2.2.2.1) (hs : small ls) (hv : valid ls r = true) :
    CallsR Tryd.prog 43 [.int .i64 i, .rp [.sl 1 (ls.map .str)], .rp [.int .i64 r.1, .int .i64 r.2.1, .int .i64 r.2.2.1, .int .i64 r.2.2.2.1, .int .i64 r.2.2.2.2]] [] (.str (cutLine ls r i)) [] := by
  obtain ⟨a1, a2, a3, a4, a5⟩ := cols_ok hv i h1 h2
  have hl := hs.2 i.toNat
  have ht := valid_to hv
  obtain ⟨k, f1, f2, t1, t2⟩ := r
  refine callsR_of (mrg := true) (dyn := []) (CtrOK.cons ok_Columns (CtrOK.nil _)) mixed Tryd.func43 rfl (by simp [Tryd.ntmps43]) (by kernel_rfl) ?_
  rw [show Tryd.f43.results.toList = [.tmp 4] from by kernel_rfl]
  simp (maxSteps := 4000000) only [↓wpA_H, ↓wpH_ret, ↓wpH_seq, ↓wpH_region, bselH_false, runH_nil, runH_cons, gw, gselH_plain, ↓chk, justK, noW, ↓oneK, ↓pureK, ↓heapK, envOf, ↓thenA_normal, ↓stepEv, opnd, Pg.look, binK, strOp, Bool.false_eq_true, implies_true, true_and, and_true, valV, heapV, footV, binV, strV, cutV, ofV, ofLeaf, retA, resK, tupA, subA, subQ, ptrsE, frzO, subF, subG, pickOf, frzE, frzC, frz0, frzH, Pg.freeze, List.foldl_nil, subOs, subEv, subV_succ, subM, ldCells, sliceS, ↓callT, callC, callV, callH, normArgs, normA, normC, resL, res8_eq, res_succ, resM, shiftR, shift1, AV.cells, TK.cells, List.getElem?_cons_succ, List.getElem?_cons_zero, Option.map_some, Option.map_none, Option.getD_some, reduceCtorEq, Nat.reduceEqDiff, Nat.reduceAdd, List.append_nil, List.length_cons, List.length_nil, List.map_cons, List.map_nil, Nat.zero_add, ite_true, ite_false, Option.some.injEq, and_self, exists_eq_left', pickOK_nil, List.length_map, cInt_dec, cSl_dec, cAgg_dec, lOne_dec, lCons_dec, dec2_some, List.contains_nil, List.range'_zero, decL_str, C1by_ns, C1by_pre, C1by_r, C1by_H, optP_some, optV_some, optH_some, getD_str, cutL, List.drop_zero, List.take_succ_cons, Nat.sub_zero, Nat.le_refl, List.take_nil, tk9, dz9, tk22, tk49, kColumns]
  exact ⟨⟨⟨a1, a2⟩, fun i => by have := hs.2 i; omega, ht⟩, ⟨a1, by omega⟩, ⟨a3, by omega⟩, ⟨a1, by omega⟩, ⟨by omega, a5⟩, by rw [List.length_take, List.length_drop]; omega, rfl⟩

/-- Each of some lines, by what is left of them. -/
def kEachCut : C1 := C1.by [.sl 1 [], .id, .id, .id] (lCons cStrs (lCons (cInt .i64) (lCons (cInt .i64) (lOne (cFn 43 (lCons (cRp (lOne cStrs)) (lOne (cRp lRg))))))))
  (fun d => small d.1 ∧ d.2.2.2.1 = d.1 ∧ valid d.1 d.2.2.2.2 = true ∧ d.2.1 = d.2.2.2.2.2.1 ∧ d.2.2.1 = d.2.2.2.2.2.2.2.1)
  (fun d => aCh (d.2.1, cutL d.1 d.2.1.toNat (d.2.2.1 + 1).toNat, eachL d.2.1 d.2.2.1 (cutLine d.1 d.2.2.2.2))) (fun _ => [])

theorem valid_line {ls : Ls} {r : Rg} (h : valid ls r = true) : 0 ≤ r.2.1 ∧ r.2.1 ≤ r.2.2.2.1 ∧ r.2.2.2.1 < ls.length := by
  simp only [valid, Bool.and_eq_true, Bool.not_eq_true', Bool.or_eq_false_iff, decide_eq_false_iff_not] at h
  omega

theorem ok_EachCut : C1OK Tryd.prog 42 kEachCut := C1OK.by (by kernel_rfl) (fun d h => by
  obtain ⟨ls, f, t, ls2, r⟩ := d
  obtain ⟨h1, h2, h3, h4, h5⟩ := h
  simp only at h1 h2 h3 h4 h5
  subst h2
  subst h4
  subst h5
  obtain ⟨v1, v2, v3⟩ := valid_line h3
  exact calls_each ls2 r.2.1 r.2.2.2.1 _ _ (cutLine ls2 r) v1 (by omega) v3 h1.1 (by simp) (.cons (.cons .nil))
    (kLineFn_ok (by kernel_rfl) (fun i a b => calls_Cut1 ls2 r i a b h1 h3))) (fun _ => rfl) (fun _ => rfl)

def cut (ls : Ls) (r : Rg) : Ch × Bool :=
  if valid ls r = true then
    ((r.2.1, cutL ls r.2.1.toNat (r.2.2.2.1 + 1).toNat, if (r.1 == 0) = true then [(ls.getD r.2.1.toNat []).take r.2.2.1.toNat ++ (ls.getD r.2.2.2.1.toNat []).drop r.2.2.2.2.toNat]
      else if (r.1 == 2) = true then eachL r.2.1 r.2.2.2.1 (cutLine ls r)
      else if (r.2.2.2.1 - r.2.1 + 1 == (ls.length : Int)) = true then [[]] else []), true)
  else ((0, [], []), false)

set_option maxRecDepth 20000 in
set_option maxHeartbeats 4000000 in
theorem calls_Cut (ls : Ls) (r : Rg) (hs : small ls) :
    CallsR Tryd.prog 24 [.sl 1 (ls.map .str), aRg r] [] (.tuple [aCh (cut ls r).1, .bool (cut ls r).2]) [] := by
  refine callsR_of (mrg := true) (dyn := []) (CtrOK.cons ok_Valid (CtrOK.cons ok_changed (CtrOK.cons ok_EachCut (CtrOK.nil _)))) mixed Tryd.func24 rfl (by simp [Tryd.ntmps24]) (by kernel_rfl) ?_
  rw [show Tryd.f24.results.toList = [.cell 4 31, .tmp 5] from by kernel_rfl]
  cases hv : valid ls r with
  | false =>
    simp (maxSteps := 4000000) only [↓wpA_H, ↓wpH_ret, ↓wpH_seq, ↓wpH_cond, ↓wpH_region, ↓iselH_true, bselH_false, runH_nil, runH_cons, gw, gselH_plain, cselH_bool, ↓chk, justK, noW, ↓oneK, ↓pureK, ↓heapK, envOf, ↓thenA_normal, ↓thenA_ret, ↓stepEv, opnd, Pg.look, Bool.not_false, Bool.false_eq_true, false_implies, implies_true, true_and, and_true, valV, heapV, footV, ofV, ofLeaf, retA, resK, tupA, subA, subQ, ptrsE, frzO, subF, subG, pickOf, frzE, frzC, frzL, frz0, frzH, Pg.freeze, List.foldl_nil, subOs, subEv, subV_succ, subM, subL, ldCells, objAt, ↓callT, callC, callV, callH, normArgs, normA, normC, resL, res8_eq, res_succ, resM, shiftR, shift1, AV.cells, TK.cells, AV.definite, AV.leaf, AV.leafy, putCells, lay, buildL, List.getElem?_cons_succ, List.getElem?_cons_zero, Option.getD_some, reduceCtorEq, Nat.reduceEqDiff, Nat.reduceAdd, List.nil_append, List.append_nil, List.cons_append, List.length_cons, List.length_nil, List.map_cons, List.map_nil, List.set_cons_zero, List.set_cons_succ, Nat.zero_add, ite_true, ite_false, Option.some.injEq, Option.isSome_some, AV.agg.injEq, Prod.mk.injEq, List.all_cons, List.all_nil, Bool.and_self, and_self, exists_eq_left', pickOK_nil, cInt_dec, cSl_dec, cAgg_dec, lOne_dec, lCons_dec, dec2_some, List.contains_nil, List.range'_zero, decL_str, C1by_ns, C1by_pre, C1by_r, C1by_H, optP_some, optV_some, optH_some, List.getD_cons_zero, cutL, List.drop_zero, List.drop_succ_cons, List.take_succ_cons, List.take_zero, Nat.sub_zero, Nat.le_refl, List.drop_nil, List.take_nil, Nat.zero_lt_succ, tk22, dz22, tk31, tz31, dz31, tk49, dz49, kValid, kChanged, kEachCut, aCh, aRg, hv, cut]
  | true =>
    obtain ⟨v1, v2, v3⟩ := valid_line hv
    have hl := hs.1
    obtain ⟨k, f1, f2, t1, t2⟩ := r
    simp only at v1 v2 v3
    have w1 : IntKind.i64.wrap (IntKind.i64.wrap (t1 - f1) + 1) = t1 - f1 + 1 := by rw [wrap64 (n := t1 - f1) (by omega) (by omega), wrap64 (by omega) (by omega)]
    have w2 : f1 + (t1 - f1 + 1) = t1 + 1 := by omega
    simp (maxSteps := 4000000) only [↓wpA_H, ↓wpH_skip, ↓wpH_ret, ↓wpH_seq, ↓wpH_cond, ↓wpH_block, ↓wpH_region, ↓iselH_false, iselH_if, bselH_false, runH_nil, runH_cons, gw, gselH_plain, cselH_bool, ↓chk, justK, noW, ↓oneK, ↓pureK, ↓heapK, envOf, ↓thenA_normal, ↓thenA_ret, ↓blockA_normal, ↓blockA_ret, ↓stepEv, opnd, Pg.look, binK, intOp, strOp, Bool.not_true, Bool.false_eq_true, false_implies, implies_true, true_and, and_true, valV, heapV, footV, binV, intV, strV, cutV, ofV, ofLeaf, retA, resK, tupA, subA, subQ, ptrsE, frzO, subF, subG, pickOf, frzE, frzC, frzL, frz0, frzH, Pg.freeze, List.foldl_nil, List.foldl_cons, subOs, subEv, subV_succ, subM, subL, slen, ldCells, objAt, sliceS, ↓callT, callC, callV, callH, normArgs, normA, normC, resL, res8_eq, res_succ, resM, shiftR, shift1, AV.cells, TK.cells, AV.definite, AV.leaf, AV.leafy, AV.pureLeaf, AV.pureB, putCells, lay, frzAt, List.getElem?_cons_succ, List.getElem?_cons_zero, Option.map_some, Option.map_none, Option.getD_some, reduceCtorEq, Nat.reduceEqDiff, Nat.reduceAdd, List.nil_append, List.append_nil, List.cons_append, List.length_cons, List.length_nil, List.map_cons, List.map_nil, List.set_cons_zero, List.set_cons_succ, Nat.zero_add, ite_true, ite_false, Option.some.injEq, Option.isSome_some, AV.int.injEq, Prod.mk.injEq, List.all_cons, List.all_nil, Bool.and_self, and_self, exists_eq_left', pickOK_nil, List.length_map, cInt_dec, rg1, cStr_dec, cSl_dec, cAgg_dec, cRp_dec, cFn_dec, lOne_dec, lCons_dec, dec2_some, List.contains_nil, beq_self_eq_true, decL_nil, decL_cons, consO_some, List.range'_zero, Nat.reducePow, decL_str, C1by_ns, C1by_pre, C1by_r, C1by_H, optP_some, optV_some, optH_some, getD_str, List.getD_cons_zero, cutL, List.drop_zero, List.drop_succ_cons, List.take_succ_cons, List.take_zero, Nat.add_zero, Nat.sub_zero, Nat.reduceLeDiff, Nat.le_refl, Nat.mul_one, List.drop_nil, List.take_nil, Nat.zero_lt_succ, tk3, tk9, dz9, eb9, tk22, dz22, tk24, tk31, tz31, dz31, tk49, dz49, kValid, kChanged, kEachCut, aCh, aRg, hv, cut, w1, w2]
    refine ⟨fun h1 => ?_, fun h1 => ⟨fun h2 => ⟨hs, by rw [if_neg (by rw [h1]; decide), if_pos h2]⟩, fun h2 => ⟨fun h3 => ?_, fun h3 => ?_⟩⟩⟩
    · have hk : valid ls (k, f1, f2, t1, t2) = true := hv
      simp only [valid, h1, if_true, Bool.and_eq_true] at hk
      obtain ⟨_, ⟨b1, b2⟩, _⟩ := hk
      rw [place_iff] at b1 b2
      have c1 := hs.2 f1.toNat
      have c2 := hs.2 t1.toNat
      exact ⟨by omega, by omega, by omega, by omega, by rw [List.length_take, List.length_drop]; omega, by omega, by rw [if_pos h1]; rfl⟩
    · exact ⟨by omega, by rw [if_neg (by rw [h1]; decide), if_neg (by rw [h2]; decide), if_pos h3]; rfl⟩
    · exact ⟨by omega, by rw [if_neg (by rw [h1]; decide), if_neg (by rw [h2]; decide), if_neg (by rw [h3]; decide)]; rfl⟩
def kCut : C1 := C1.by [.sl 1 [], .id] (lCons cStrs (lOne cRg)) (fun d => small d.1) (fun d => .tuple [aCh (cut d.1 d.2).1, .bool (cut d.1 d.2).2]) (fun _ => [])
theorem ok_Cut : C1OK Tryd.prog 24 kCut := C1OK.by (by kernel_rfl) (fun d h => calls_Cut d.1 d.2 h) (fun _ => rfl) (fun _ => rfl)
end Go.Pg
