/- A line's change; what a key does. -/
import Derived.Test.YtkjfcpdancjhmaaPgFs4
namespace Go.Pg
open Go Go.Proofs

theorem calls_line (ls now : Ls) (l c : Int) (h1 : 0 ≤ l) (h2 : l < ls.length) :
    CallsR Try.prog 51 [.sl 1 (ls.map .str), .agg [.int .i64 l, .int .i64 c], .sl 1 (now.map .str)] [] (.agg [.int .i64 l, .sl 1 [.str (ls.getD l.toNat [])], .sl 1 (now.map .str)]) [] := by
  refine callsR_of (mrg := true) (dyn := []) (CtrOK.nil _) mixed Try.func51 rfl (by simp [Try.ntmps51]) (by kernel_rfl) ?_
  rw [show Try.f51.results.toList = [.cell 6 33] from by kernel_rfl]
  simp (maxSteps := 4000000) only [↓wpA_H, ↓wpH_ret, ↓wpH_seq, ↓wpH_region, bselH_false, runH_nil, runH_cons, gw, gselH_plain, ↓chk, justK, noW, ↓oneK, ↓pureK, ↓heapK, envOf, ↓thenA_normal, ↓stepEv, opnd, Pg.look, Bool.false_eq_true, implies_true, true_and, and_true, valV, heapV, footV, ofV, ofLeaf, retA, resK, tupA, subA, subQ, ptrsE, frzO, subF, subG, pickOf, frzE, frzC, frzL, frz0, frzH, Pg.freeze, List.foldl_nil, List.foldl_cons, subOs, subEv, subV, subL, ldCells, objAt, resL, res, AV.cells, TK.cells, AV.definite, AV.leaf, AV.leafy, AV.pureLeaf, AV.pureB, putCells, lay, buildL, frzAt, List.getElem?_cons_succ, List.getElem?_cons_zero, List.getElem?_nil, Option.getD_some, reduceCtorEq, Nat.reduceEqDiff, Nat.reduceAdd, List.nil_append, List.append_nil, List.cons_append, List.length_cons, List.length_nil, List.map_cons, List.map_nil, List.set_cons_zero, List.set_cons_succ, Nat.zero_add, ite_true, ite_false, Option.some.injEq, Option.isSome_some, AV.agg.injEq, List.all_cons, List.all_nil, Bool.and_self, and_self, exists_eq_left', pickOK_nil, List.length_map, rg1, resIn, List.contains_cons, List.contains_nil, Bool.or_false, beq_self_eq_true, Nat.reducePow, getD_str, List.getD_cons_zero, cutL, List.drop_zero, List.drop_succ_cons, List.take_succ_cons, List.take_zero, Nat.add_zero, Nat.sub_zero, Nat.reduceLeDiff, Nat.le_refl, Nat.mul_one, List.drop_nil, List.take_nil, Nat.zero_lt_succ, tk3, tk9, dz9, eb9, tk22, tk24, dz24, tk33, tz33, dz33]
  exact ⟨h1, by omega⟩

def kLine : C1 := C1.by [.sl 1 [], .id, .sl 1 []] (lCons cStrs (lCons (cAgg (lCons (cInt .i64) (lOne (cInt .i64)))) (lOne cStrs)))
  (fun d => 0 ≤ d.2.1.1 ∧ d.2.1.1 < d.1.length)
  (fun d => .agg [.int .i64 d.2.1.1, .sl 1 [.str (d.1.getD d.2.1.1.toNat [])], .sl 1 (d.2.2.map .str)]) (fun _ => [])
theorem ok_line : C1OK Try.prog 51 kLine := C1OK.by (by kernel_rfl) (fun d h => calls_line d.1 d.2.2 d.2.1.1 d.2.1.2 h.1 h.2) (fun _ => rfl) (fun _ => rfl)

def kWrite : C1 := C1.by [.sl 1 [], .id, .sl 1 []] (lCons cStrs (lCons (cAgg (lCons (cInt .i64) (lOne (cInt .i64)))) (lOne cStrs)))
  (fun d => small d.1 ∧ small d.2.2)
  (fun d => .tuple [aCh (write d.1 d.2.1.1 d.2.1.2 d.2.2).1, aPos (write d.1 d.2.1.1 d.2.1.2 d.2.2).2.1, .bool (write d.1 d.2.1.1 d.2.1.2 d.2.2).2.2]) (fun _ => [])
theorem ok_Write : C1OK Try.prog 50 kWrite := C1OK.by (by kernel_rfl) (fun d h => calls_Write d.1 d.2.2 d.2.1.1 d.2.1.2 h.1 h.2) (fun _ => rfl) (fun _ => rfl)

def kLetter : C1 := C1.by [.id] (lOne (cInt .u8)) (fun _ => True) (fun n => .bool (letter n)) (fun _ => [])
theorem ok_Letter : C1OK Try.prog 49 kLetter := C1OK.by (by kernel_rfl) (fun d _ => calls_Letter d) (fun _ => rfl) (fun _ => rfl)
theorem ok_RLetter : C1OK Try.prog 53 kLetter := C1OK.by (by kernel_rfl) (fun d _ => calls_RLetter d) (fun _ => rfl) (fun _ => rfl)
theorem ok_RPlace : C1OK Try.prog 52 kPlace := C1OK.by (by kernel_rfl) (fun d _ => calls_RPlace d.1 d.2.1 d.2.2) (fun _ => rfl) (fun _ => rfl)

abbrev Typed := (Int × Ls × Ls) × (Int × Int) × Bool
def nothing : Typed := ((0, [], []), (0, 0), false)

/-- What a key does. -/
def typ (ls : Ls) (p f : Int × Int) (m : Int) (k : UInt8) : Typed :=
  let c : Int := k.toNat
  if (place ls p.1 p.2 && (m == 1 || m == 2)) = true then
    let s := ls.getD p.1.toNat []
    let a := s.take p.2.toNat
    let b := s.drop p.2.toNat
    if letter c = true then ((p.1, [s], [a ++ [k] ++ (if (m == 2) = true then b.drop 1 else b)]), (p.1, p.2 + 1), true)
    else if (c == 13 || c == 10) = true then ((p.1, [s], [a, b]), (p.1 + 1, 0), true)
    else if ((c == 8 || c == 127) && m == 1 && decide (p.2 > 0) && (p.1 != f.1 || decide (p.2 > f.2))) = true then ((p.1, [s], [s.take (p.2 - 1).toNat ++ b]), (p.1, p.2 - 1), true)
    else nothing
  else nothing

set_option maxRecDepth 20000 in
set_option maxHeartbeats 4000000 in
theorem calls_RType (ls : Ls) (l c l' c' m : Int) (k : UInt8) (hb : small ls) :
    CallsR Try.prog 19 [.sl 1 (ls.map .str), .agg [.int .i64 l, .int .i64 c], .agg [.int .i64 l', .int .i64 c'], .int .i64 m, .int .u8 k.toNat] []
      (.tuple [aCh (typ ls (l, c) (l', c') m k).1, aPos (typ ls (l, c) (l', c') m k).2.1, .bool (typ ls (l, c) (l', c') m k).2.2]) [] := by
  refine callsR_of (mrg := true) (dyn := [18]) (CtrOK.cons ok_RPlace (CtrOK.cons ok_RLetter (CtrOK.nil _))) mixed Try.func19 rfl (by simp [Try.ntmps19]) (by kernel_rfl) ?_
  rw [show Try.f19.results.toList = [.cell 10 33, .cell 11 24, .tmp 12] from by kernel_rfl]
  simp (maxSteps := 4000000) only [↓wpA_H, ↓wpH_skip, ↓wpH_ret, ↓wpH_seq, ↓wpH_cond, ↓wpH_block, ↓wpH_region, bselH_true, iselH_if, bselH_false, runH_nil, runH_cons, gw, gselH_plain, gselH_if, kselH_0, kselH_1, cselH_bool, gkind, ↓chk, pickO, justK, noW, ↓oneK, ↓pureK, ↓heapK, envOf, ↓thenA_normal, ↓thenA_ret, ↓blockA_normal, ↓blockA_ret, ↓stepEv, opnd, Pg.look, binK, intOp, strOp, dstOf, Bool.false_eq_true, false_implies, implies_true, imp_self, true_and, and_true, forall_const, pickC, pickV, unc, gof, mux, mergeK, condsL, valV, heapV, footV, binV, intV, strV, cutV, mergeable, look_stripE, ofV, ofLeaf, sameK, retA, resK, tupA, subA, subQ, ptrsE, frzO, subF, subG, pickOf, frzE, frzC, frzL, frz0, frzH, Pg.freeze, List.foldl_nil, List.foldl_cons, subOs, subEv, subV, subL, srcV, srcL, ldCells, objAt, sliceS, ↓callT, callC, callV, callH, normArgs, normA, normC, resL, res, shiftR, shift1, AV.cells, TK.cells, AV.definite, AV.leaf, AV.leafy, AV.pureLeaf, AV.pureB, putCells, lay, buildL, frzAt, Op.operands, List.getElem?_toArray, List.getElem?_cons_succ, List.getElem?_cons_zero, List.getElem?_nil, Option.bind_some, Option.map_some, Option.map_none, Option.getD_some, reduceCtorEq, Nat.reduceEqDiff, Nat.reduceAdd, List.nil_append, List.append_nil, List.cons_append, List.length_cons, List.length_nil, List.map_cons, List.map_nil, List.set_cons_zero, List.set_cons_succ, Nat.zero_add, Int.reduceToNat, ite_true, ite_false, Option.some.injEq, Option.isSome_some, AV.str.injEq, AV.sl.injEq, AV.agg.injEq, Prod.mk.injEq, Bool.if_false_right, Bool.if_true_left, Bool.decide_eq_true, List.all_cons, List.all_nil, Bool.and_self, and_self, Bool.not_eq_true', exists_eq_left', pickOK_nil, List.length_map, cInt_dec, List.toList_toArray, List.length_append, rg1, rg2, Int.reduceLE, bytesOf_nil, bytesOf_byte, cSl_dec, cAgg_dec, lOne_dec, lCons_dec, dec2_some, resIn, List.contains_cons, List.contains_nil, Nat.reduceBEq, Bool.or_self, Bool.or_false, beq_self_eq_true, Bool.or_true, List.range'_zero, Nat.reducePow, decL_str, C1by_ns, C1by_pre, C1by_r, C1by_H, optP_some, optV_some, optH_some, getD_str, List.getD_cons_zero, cutL, List.drop_zero, List.drop_succ_cons, List.take_succ_cons, List.take_zero, Nat.add_zero, Nat.sub_zero, Nat.reduceLeDiff, Nat.le_refl, Nat.mul_one, List.drop_nil, List.take_nil, Nat.zero_lt_succ, tk3, tk5, eb5, tk9, dz9, eb9, tk22, tk24, tz24, dz24, tk31, tk33, tz33, dz33, kPlace, kLetter, aCh, aPos]
  refine ⟨fun h => ⟨h, fun h2 => by simp [h, h2]⟩, fun h => ?_, fun h => ?_⟩
  · have h1 : typ ls (l, c) (l', c') m k = nothing := if_neg (by cases hp : place ls l c <;> simp_all)
    simp only [h1, nothing]
    simp
  have hp : place ls l c = true := by cases hp : place ls l c <;> simp_all
  have hm : (m == 1 || m == 2) = true := by simp only [hp] at h; simp at h ⊢; omega
  have hT : typ ls (l, c) (l', c') m k = _ := if_pos (by simp only [hp, hm]; rfl)
  obtain ⟨a1, a2, a3, a4⟩ := (place_iff ..).1 hp
  have hs := hb.2 l.toNat
  have hb1 := hb.1
  refine ⟨by omega, fun hl => ⟨by omega, fun h2 => ?_, fun h2 => ?_⟩, fun hl => ⟨fun h2 => ?_, fun h2 => ⟨fun h3 => ⟨h3, fun h4 => ?_⟩, fun h3 => ?_, fun h3 => ?_⟩⟩⟩
  · have hd : 1 ≤ ((ls.getD l.toNat []).drop c.toNat).length := by
      simp only [Bool.and_eq_true, Bool.not_eq_true', beq_eq_false_iff_ne, ne_eq] at h2
      exact List.length_pos_iff.2 h2.2
    have hm2 : (m == 2) = true := by simp only [Bool.and_eq_true] at h2; exact h2.1
    rw [hT, if_pos hl, wrap64 (by omega) (by omega)]
    refine ⟨by omega, by omega, by simp only [List.length_take]; omega, by simp only [List.length_take, List.length_drop]; omega, rfl, ⟨rfl, rfl, ?_⟩, ⟨rfl, rfl⟩, rfl⟩
    rw [if_pos hm2]
    rfl
  · have hd : (if (m == 2) = true then ((ls.getD l.toNat []).drop c.toNat).drop 1 else (ls.getD l.toNat []).drop c.toNat) = (ls.getD l.toNat []).drop c.toNat := by
      split
      · next hm2 =>
        rw [hm2] at h2
        simp only [Bool.true_and, Bool.not_eq_false', beq_iff_eq] at h2
        rw [h2]; rfl
      · rfl
    rw [hT, if_pos hl, wrap64 (by omega) (by omega)]
    refine ⟨by omega, by simp only [List.length_take]; omega, by simp only [List.length_take, List.length_drop]; omega, rfl, ⟨rfl, rfl, ?_⟩, ⟨rfl, rfl⟩, rfl⟩
    show _ = [AV.str (_ ++ (if (m == 2) = true then ((ls.getD l.toNat []).drop c.toNat).drop 1 else (ls.getD l.toNat []).drop c.toNat))]
    rw [hd]
  · rw [hT, if_neg (by rw [hl]; simp), if_pos h2, wrap64 (by omega) (by omega)]
    exact ⟨by omega, by omega, rfl, ⟨rfl, rfl, rfl⟩, ⟨rfl, rfl⟩, rfl⟩
  · simp only [h4, Bool.not_false, Bool.and_true]; exact h3
  · have hc : 0 < c := by
      simp only [Bool.and_eq_true, decide_eq_true_eq] at h3
      exact h3.1.2
    rw [hT, if_neg (by rw [hl]; simp), if_neg (by rw [h2]; simp), if_pos h3, wrap64 (by omega) (by omega)]
    exact ⟨by omega, by omega, by simp only [List.length_take, List.length_drop]; omega, rfl, ⟨rfl, rfl, rfl⟩, ⟨rfl, rfl⟩, rfl⟩
  · rw [hT, if_neg (by rw [hl]; simp), if_neg (by rw [h2]; simp), if_neg (by rw [h3]; simp)]
    exact ⟨⟨rfl, rfl, rfl⟩, ⟨rfl, rfl⟩, rfl⟩

end Go.Pg
