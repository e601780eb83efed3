/- What a key does, by the program. -/
import Derived.Test.YtkjfcpdancjhmaaPgFs5
namespace Go.Pg
open Go Go.Proofs

theorem write_one (ls : Ls) (l c : Int) (s : List UInt8) (h : place ls l c = true) :
    write ls l c [s] = ((l, [ls.getD l.toNat []], [(ls.getD l.toNat []).take c.toNat ++ s ++ (ls.getD l.toNat []).drop c.toNat]), (l, c + s.length), true) := by
  have e : write ls l c [s] = _ := if_pos (by rw [h]; rfl)
  obtain ⟨a1, a2, a3, a4⟩ := (place_iff ..).1 h
  rw [e]
  show ((l, _, [((ls.getD l.toNat []).take c.toNat ++ s) ++ (ls.getD l.toNat []).drop c.toNat]), ((l + ((0 : Nat) : Int)), (((ls.getD l.toNat []).take c.toNat ++ s).length : Int)), true) = _
  have h1 : (((ls.getD l.toNat []).take c.toNat ++ s).length : Int) = c + s.length := by
    simp only [List.length_append, List.length_take]; omega
  have h2 : l + ((0 : Nat) : Int) = l := by omega
  rw [h1, h2]

theorem write_two (ls : Ls) (l c : Int) (h : place ls l c = true) :
    write ls l c [[], []] = ((l, [ls.getD l.toNat []], [(ls.getD l.toNat []).take c.toNat, (ls.getD l.toNat []).drop c.toNat]), (l + 1, 0), true) := by
  have e : write ls l c [[], []] = _ := if_pos (by rw [h]; rfl)
  rw [e]
  show ((l, _, [(ls.getD l.toNat []).take c.toNat ++ [], [] ++ (ls.getD l.toNat []).drop c.toNat]), ((l + ((1 : Nat) : Int)), ((0 : Nat) : Int)), true) = _
  rw [List.append_nil, List.nil_append]
  rfl

theorem small_two (a b : List UInt8) (ha : a.length ≤ 1099511627776) (hb : b.length ≤ 1099511627776) : small [a, b] := by
  refine ⟨by simp, fun i => ?_⟩
  match i with
  | 0 => exact ha
  | 1 => exact hb
  | i + 2 => simp
theorem small_one (a : List UInt8) (ha : a.length ≤ 1099511627776) : small [a] := by
  refine ⟨by simp, fun i => ?_⟩
  match i with
  | 0 => exact ha
  | i + 1 => simp

set_option maxRecDepth 20000 in
set_option maxHeartbeats 4000000 in
theorem calls_Type (ls : Ls) (l c l' c' m : Int) (k : UInt8) (hb : small ls) :
    CallsR Try.prog 18 [.sl 1 (ls.map .str), .agg [.int .i64 l, .int .i64 c], .agg [.int .i64 l', .int .i64 c'], .int .i64 m, .int .u8 k.toNat] []
      (.tuple [aCh (typ ls (l, c) (l', c') m k).1, aPos (typ ls (l, c) (l', c') m k).2.1, .bool (typ ls (l, c) (l', c') m k).2.2]) [] := by
  refine callsR_of (mrg := true) (dyn := [8, 13]) (CtrOK.cons ok_Place (CtrOK.cons ok_Letter (CtrOK.cons ok_Write (CtrOK.cons ok_line (CtrOK.nil _))))) mixed Try.func18 rfl (by simp [Try.ntmps18]) (by kernel_rfl) ?_
  rw [show Try.f18.results.toList = [.cell 10 33, .cell 11 24, .tmp 12] from by kernel_rfl]
  simp (maxSteps := 4000000) only [↓wpA_H, ↓wpH_skip, ↓wpH_ret, ↓wpH_exit, ↓wpH_seq, ↓wpH_cond, ↓wpH_block, ↓wpH_region, bselH_true, iselH_if, bselH_false, runH_nil, runH_cons, gw, gselH_plain, gselH_if, kselH_0, kselH_1, cselH_bool, gkind, ↓chk, pickO, justK, noW, ↓oneK, ↓pureK, ↓heapK, envOf, ↓thenA_normal, ↓thenA_ret, ↓thenA_exit, ↓blockA_normal, ↓blockA_ret, ↓blockA_exit, ↓stepEv, opnd, Pg.look, binK, intOp, strOp, dstOf, Bool.false_eq_true, false_implies, implies_true, imp_self, true_and, and_true, forall_const, pickC, pickV, unc, gof, mux, mergeK, condsL, valV, heapV, footV, binV, intV, strV, cutV, mergeable, look_stripE, ofV, ofLeaf, sameK, retA, resK, tupA, subA, subQ, ptrsE, frzO, subF, subG, pickOf, frzE, frzC, frzL, frz0, frzH, Pg.freeze, List.foldl_nil, List.foldl_cons, subOs, subEv, subV, subL, srcV, srcL, ldCells, objAt, sliceS, ↓callT, callC, callV, callH, normArgs, normA, normC, resL, res, shiftR, shift1, AV.cells, TK.cells, AV.definite, AV.leaf, AV.leafy, AV.pureLeaf, AV.pureB, putCells, lay, buildL, foldInts, frzAt, Op.operands, List.getElem?_toArray, List.getElem?_cons_succ, List.getElem?_cons_zero, List.getElem?_nil, Option.bind_some, Option.map_some, Option.map_none, Option.getD_some, reduceCtorEq, Nat.reduceEqDiff, Nat.reduceAdd, List.nil_append, List.append_nil, List.cons_append, List.length_cons, List.length_nil, List.map_cons, List.map_nil, List.set_cons_zero, List.set_cons_succ, Nat.zero_add, ite_true, ite_false, Option.some.injEq, Option.isSome_some, AV.int.injEq, AV.str.injEq, AV.agg.injEq, Prod.mk.injEq, Bool.if_false_right, Bool.if_true_left, Bool.decide_eq_true, List.all_cons, List.all_nil, Bool.and_self, and_self, Bool.not_eq_true', exists_eq_left', pickOK_nil, List.length_map, cInt_dec, List.toList_toArray, List.length_append, rg1, rg2, bytesOf_nil, bytesOf_byte, cStr_dec, cSl_dec, cAgg_dec, lOne_dec, lCons_dec, dec2_some, resIn, List.contains_cons, List.contains_nil, Nat.reduceBEq, Bool.or_self, Bool.or_false, beq_self_eq_true, Bool.or_true, decL_nil, decL_cons, consO_some, List.range'_zero, Nat.reducePow, decL_str, C1by_ns, C1by_pre, C1by_r, C1by_H, optP_some, optV_some, optH_some, getD_str, List.getD_cons_zero, cutL, List.drop_zero, List.drop_succ_cons, List.take_succ_cons, List.take_zero, Nat.add_zero, Nat.sub_zero, Nat.reduceLeDiff, Nat.le_refl, Nat.mul_one, List.drop_nil, List.take_nil, Nat.zero_lt_succ, tk3, tk5, eb5, tk9, dz9, eb9, tk22, tk24, tz24, dz24, tk31, tk33, tz33, dz33, kPlace, kLetter, kWrite, kLine, aCh, aPos]
  refine ⟨fun h => ⟨h, fun h2 => by simp [h, h2]⟩, fun h => ?_, fun h => ?_⟩
  · have h1 : typ ls (l, c) (l', c') m k = nothing := if_neg (by cases hp : place ls l c <;> simp_all)
    simp only [h1, nothing]
    simp
  have hp : place ls l c = true := by cases hp : place ls l c <;> simp_all
  have hm : (m == 1 || m == 2) = true := by simp only [hp] at h; simp at h ⊢; omega
  have hT : typ ls (l, c) (l', c') m k = _ := if_pos (by simp only [hp, hm]; rfl)
  obtain ⟨a1, a2, a3, a4⟩ := (place_iff ..).1 hp
  have hs := hb.2 l.toNat
  have hb1 := hb.1
  refine ⟨by omega, fun h1 => ?_, fun h1 => ⟨fun hl => ?_, fun hl => ⟨fun h2 => ?_, fun h2 => ⟨fun h3 => ⟨fun h4 => ⟨h4, fun h5 => by rw [h4, h5]; rfl⟩, fun h4 => ?_, fun h4 => ?_⟩, fun h3 => ?_⟩⟩⟩⟩
  · simp only [Bool.and_eq_true] at h1
    have hm1 : m = 1 := by simpa using h1.2
    rw [write_one ls l c _ hp, hT, if_pos h1.1]
    refine ⟨⟨hb, small_one _ (by simp)⟩, ⟨rfl, rfl, ?_⟩, ⟨rfl, rfl⟩, rfl⟩
    rw [if_neg (by rw [hm1]; decide)]
  · have hm2 : (m == 2) = true := by
      rw [hl] at h1
      simp only [Bool.true_and] at h1
      rw [h1] at hm
      simpa using hm
    rw [wrap64 (by omega) (by omega)]
    have hmin : min (c + 1) ((ls.getD l.toNat []).length : Int) = ((min (c.toNat + 1) (ls.getD l.toNat []).length : Nat) : Int) := by omega
    rw [hmin, hT, if_pos hl]
    refine ⟨by omega, by simp only [List.length_take]; omega, by omega, by simp only [List.length_take, List.length_drop]; omega, by omega, rfl, ⟨rfl, rfl, ?_⟩, ⟨rfl, rfl⟩, rfl⟩
    rw [if_pos hm2, Int.toNat_natCast, List.drop_drop]
    have hd : (ls.getD l.toNat []).drop (min (c.toNat + 1) (ls.getD l.toNat []).length) = (ls.getD l.toNat []).drop (c.toNat + 1) := by
      by_cases h5 : c.toNat + 1 ≤ (ls.getD l.toNat []).length
      · rw [Nat.min_eq_left h5]
      · rw [Nat.min_eq_right (by omega), List.drop_length, List.drop_eq_nil_of_le (by omega)]
    rw [hd]
    rfl
  · rw [write_two ls l c hp, hT, if_neg (by rw [hl]; simp), if_pos h2]
    exact ⟨⟨hb, small_two _ _ (by simp) (by simp)⟩, ⟨rfl, rfl, rfl⟩, ⟨rfl, rfl⟩, rfl⟩
  · rw [hT, if_neg (by rw [hl]; simp), if_neg (by rw [h2]; simp), if_neg ?_]
    · exact ⟨⟨rfl, rfl, rfl⟩, ⟨rfl, rfl⟩, rfl⟩
    · intro h5
      simp only [Bool.and_eq_true, Bool.or_eq_true, bne_iff_ne, beq_iff_eq, decide_eq_true_eq, ne_eq] at h4 h5
      omega
  · have h5 : ((((k.toNat : Int) == 8 || (k.toNat : Int) == 127) && m == 1 && decide (c > 0) && (l != l' || decide (c > c'))) = true) ∧ 0 < c := by
      simp only [Bool.and_eq_true, Bool.or_eq_true, bne_iff_ne, beq_iff_eq, decide_eq_true_eq, ne_eq, Bool.or_eq_false_iff, Bool.and_eq_false_imp, decide_eq_false_iff_not, bne_eq_false_iff_eq, beq_eq_false_iff_ne] at h3 h4 ⊢
      omega
    rw [hT, if_neg (by rw [hl]; simp), if_neg (by rw [h2]; simp), if_pos h5.1, wrap64 (by omega) (by omega)]
    exact ⟨by omega, by omega, by simp only [List.length_take, List.length_drop]; omega, by omega, rfl, ⟨rfl, rfl, rfl⟩, ⟨rfl, rfl⟩, rfl⟩
  · rw [hT, if_neg (by rw [hl]; simp), if_neg (by rw [h2]; simp), if_neg (by simp only [h3]; simp)]
    exact ⟨⟨rfl, rfl, rfl⟩, ⟨rfl, rfl⟩, rfl⟩
end Go.Pg
