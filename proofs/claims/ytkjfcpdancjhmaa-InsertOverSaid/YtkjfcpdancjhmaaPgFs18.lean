/- Letters that are typed over others take their places. -/
import Derived.Test.YtkjfcpdancjhmaaPgFs14
namespace Go.Pg
open Go Go.Proofs

/-- A text over a line's bytes from a place on. -/
def over (s : List UInt8) (n : Nat) (t : List UInt8) : List UInt8 := s.take n ++ t ++ s.drop (n + t.length)

theorem over_len (s : List UInt8) (n : Nat) (t : List UInt8) (h : n ≤ s.length) : (over s n t).length = max s.length (n + t.length) := by
  simp only [over, List.length_append, List.length_take, List.length_drop]; omega
theorem over_take (s : List UInt8) (n : Nat) (t : List UInt8) (h : n ≤ s.length) : (over s n t).take (n + t.length) = s.take n ++ t := by
  have h1 : (s.take n ++ t).length = n + t.length := by simp only [List.length_append, List.length_take]; omega
  have h2 := List.take_left (l₁ := s.take n ++ t) (l₂ := s.drop (n + t.length))
  rw [h1] at h2
  exact h2
theorem over_drop (s : List UInt8) (n : Nat) (t : List UInt8) (h : n ≤ s.length) : (over s n t).drop (n + t.length) = s.drop (n + t.length) := by
  have h1 : (s.take n ++ t).length = n + t.length := by simp only [List.length_append, List.length_take]; omega
  have h2 := List.drop_left (l₁ := s.take n ++ t) (l₂ := s.drop (n + t.length))
  rw [h1] at h2
  exact h2

theorem over_nil (s : List UInt8) (n : Nat) : over s n [] = s := by simp [over]

theorem set_getD (ls : Ls) (n : Nat) (h : n < ls.length) : ls.set n (ls.getD n []) = ls := by
  rw [List.getD_eq_getElem?_getD, List.getElem?_eq_getElem h]; simp

theorem over_place (ls : Ls) (p1 : Int) (n : Nat) (t : List UInt8) (h0 : 0 ≤ p1) (h1 : p1.toNat < ls.length) (hn : n ≤ (ls.getD p1.toNat []).length) :
    place (ls.set p1.toNat (over (ls.getD p1.toNat []) n t)) p1 (n + t.length : Nat) = true := by
  rw [place_iff]
  refine ⟨h0, by simpa using h1, by omega, ?_⟩
  rw [getD_set_self ls _ _ h1, over_len _ _ _ hn]
  omega

theorem typ_over (ls : Ls) (p1 : Int) (n : Nat) (t : List UInt8) (k : UInt8) (f : Int × Int) (h0 : 0 ≤ p1) (h1 : p1.toNat < ls.length) (hn : n ≤ (ls.getD p1.toNat []).length) (hk : letter k.toNat = true) :
    typ (ls.set p1.toNat (over (ls.getD p1.toNat []) n t)) (p1, (n + t.length : Nat)) f 2 k =
      ((p1, [over (ls.getD p1.toNat []) n t], [over (ls.getD p1.toNat []) n (t ++ [k])]), (p1, ((n + t.length : Nat) : Int) + 1), true) := by
  rw [typ_letter _ _ _ f 2 k (over_place ls p1 n t h0 h1 hn) rfl hk, getD_set_self ls _ _ h1, if_pos (by decide), Int.toNat_natCast, over_take _ _ _ hn, over_drop _ _ _ hn]
  have e : (ls.getD p1.toNat []).take n ++ t ++ [k] ++ ((ls.getD p1.toNat []).drop (n + t.length)).drop 1 = over (ls.getD p1.toNat []) n (t ++ [k]) := by
    simp only [over, List.drop_drop, List.length_append, List.length_cons, List.length_nil, List.append_assoc]
    rfl
  rw [e]

theorem applyL_over (ls : Ls) (p1 : Int) (x y : List UInt8) (h0 : 0 ≤ p1) (h1 : p1.toNat < ls.length) :
    applyL (ls.set p1.toNat x) [(p1, [x], [y])] = (ls.set p1.toNat y, true) := by
  have h := applyL_set (ls.set p1.toNat x) p1 y h0 (by simpa using h1)
  rw [getD_set_self ls _ _ h1, List.set_set] at h
  exact h

theorem size_cons (s : List UInt8) (ls : Ls) : size (s :: ls) = s.length + 1 + size ls := by simp [size]
theorem size_set : ∀ (ls : Ls) (n : Nat) (y : List UInt8), n < ls.length → size (ls.set n y) = size ls - (ls.getD n []).length + y.length
  | [], n, y, h => by simp at h
  | s :: ls, 0, y, _ => by simp only [List.set_cons_zero, size_cons, List.getD_cons_zero]; omega
  | s :: ls, n + 1, y, h => by
    simp only [List.set_cons_succ, size_cons, List.getD_cons_succ]
    rw [size_set ls n y (by simpa using h)]
    omega

theorem few_set {ls : Ls} {n : Nat} {y : List UInt8} (h : few ls) (hy : y.length ≤ 1048576) : few (ls.set n y) := by
  refine ⟨by simpa using h.1, fun i => ?_⟩
  rw [getD_setL]
  split
  · exact hy
  · exact h.2 i

set_option maxRecDepth 20000 in
set_option maxHeartbeats 4000000 in
theorem calls_InsertOver (ls : Ls) (a b : Int) (x : List UInt8) (hs : ∀ i, (ls.getD i []).length ≤ 140737488355328) (hx : x.length ≤ 140737488351232) (ha : 0 ≤ a ∧ a < 65536) (hb : 0 ≤ b ∧ b < 65536) :
    CallsR Try.prog 6 [.sl 1 (ls.map .str), .int .u16 a, .int .u16 b, .str x] [] (.bool true) [] := by
  refine callsR_of (mrg := true) (dyn := []) (CtrOK.cons ok_known (CtrOK.cons ok_Text (CtrOK.cons ok_SPlace (CtrOK.cons ok_Type (CtrOK.cons ok_Apply (CtrOK.cons ok_RSize (CtrOK.nil _))))))) mixed Try.func6 rfl (by simp [Try.ntmps6]) (by kernel_rfl) ?_
  rw [show Try.f6.results.toList = [.tmp 8] from by kernel_rfl]
  cases ht : text ls with
  | false =>
    simp (maxSteps := 4000000) only [↓wpA_H, ↓wpH_skip, ↓wpH_ret, ↓wpH_seq, ↓wpH_cond, ↓wpH_region, ↓iselH_true, ↓iselH_false, bselH_false, runH_nil, runH_cons, gw, gselH_plain, gselH_if, kselH_1, cselH_bool, gkind, ↓chk, justK, ↓oneK, ↓pureK, envOf, ↓thenA_normal, ↓thenA_ret, ↓stepEv, opnd, Pg.look, binK, intOp, dstOf, Bool.not_false, Bool.not_true, Bool.false_eq_true, Bool.true_eq_false, false_implies, implies_true, imp_self, true_and, and_true, pickC, pickV, unc, gof, mux, mergeK, condsL, valV, heapV, footV, binV, intV, mergeable, look_stripE, ofV, ofLeaf, sameK, retA, resK, tupA, subA, subF, subG, pickOf, frzE, frzC, frz0, frzH, Pg.freeze, List.foldl_nil, subOs, subEv, subV, objAt, ↓callT, callC, callV, callH, normArgs, normA, normC, resL, res, shiftR, shift1, Op.operands, Call.operands, Array.toList_append, List.getElem?_toArray, List.getElem?_cons_succ, List.getElem?_cons_zero, List.getElem?_nil, Option.bind_some, reduceCtorEq, Nat.reduceEqDiff, Nat.reduceAdd, List.nil_append, List.append_nil, List.length_nil, List.map_cons, List.map_nil, Nat.zero_add, ite_true, ite_false, Prod.mk.injEq, Bool.and_self, and_self, pickOK_nil, List.toList_toArray, cSl_dec, lNil_dec, lOne_dec, List.contains_nil, List.range'_zero, decL_str, C1by_ns, C1by_pre, C1by_r, C1by_H, optP_some, optV_some, optH_some, tk9, kKnown, kText, ht]
    exact hs
  | true =>
    have hft := fits_text ht
    obtain ⟨hl0, hl1, hl2⟩ := few_of_text ht
    have hsm : small ls := fits_small hft (by omega) (by omega)
    have hp := splace_place ls a b hl0 hb.1
    cases hpp : splace ls a b with | mk p1 p2
    rw [hpp] at hp
    simp only at hp
    obtain ⟨q1, q2, q3, q4⟩ := (place_iff ..).1 hp
    have hlen := hl2 p1.toNat
    obtain ⟨n, rfl⟩ : ∃ n : Nat, p2 = n := ⟨p2.toNat, by omega⟩
    have hn : n ≤ (ls.getD p1.toNat []).length := by omega
    simp (maxSteps := 4000000) only [↓wpA_H, ↓wpH_skip, ↓wpH_ret, ↓wpH_seq, ↓wpH_cond, ↓wpH_block, ↓wpH_loop, ↓wpH_region, ↓iselH_false, iselH_if, bselH_false, runH_nil, runH_cons, gw, gselH_plain, gselH_if, kselH_1, cselH_bool, gkind, ↓chk, justK, noW, ↓oneK, ↓pureK, ↓heapK, envOf, ↓thenA_normal, ↓thenA_ret, ↓stepEv, opnd, Pg.look, binK, intOp, dstOf, Bool.not_false, Bool.not_true, Bool.false_eq_true, false_implies, implies_true, true_and, and_true, pickC, pickV, unc, gof, mux, mergeK, condsL, valV, heapV, footV, binV, intV, mergeable, look_stripE, ofV, ofLeaf, sameK, retA, resK, tupA, subA, subF, subG, pickOf, frzE, frzC, frz0, frzH, Pg.freeze, List.foldl_nil, subOs, subEv, subV, ldCells, objAt, ↓callT, callC, callV, callH, normArgs, normA, normC, resL, res, shiftR, shift1, AV.cells, TK.cells, AV.definite, AV.leaf, AV.leafy, putCells, lay, Op.operands, Call.operands, Array.toList_append, List.getElem?_toArray, List.getElem?_cons_succ, List.getElem?_cons_zero, List.getElem?_nil, Option.bind_some, Option.getD_some, reduceCtorEq, Nat.reduceEqDiff, Nat.reduceAdd, List.nil_append, List.append_nil, List.cons_append, List.length_cons, List.length_nil, List.map_cons, List.map_nil, List.set_cons_zero, List.set_cons_succ, Nat.zero_add, ite_true, ite_false, Option.some.injEq, Prod.mk.injEq, decide_eq_true_eq, decide_eq_false_iff_not, Int.not_lt, List.all_cons, List.all_nil, Bool.and_self, and_self, exists_eq_left', pickOK_nil, cInt_dec, List.toList_toArray, cSl_dec, lNil_dec, lOne_dec, lCons_dec, dec2_some, List.contains_nil, List.range'_zero, decL_str, C1by_ns, C1by_pre, C1by_r, C1by_H, optP_some, optV_some, optH_some, List.getD_cons_zero, cutL, List.drop_zero, List.drop_succ_cons, List.take_succ_cons, List.take_zero, Nat.sub_zero, Nat.le_refl, List.drop_nil, List.take_nil, Nat.zero_lt_succ, tk9, tk24, tz24, dz24, kKnown, kText, kSPlace, kTyp, kApply, kRSize, aTyped, aPos, aCh, ht, hpp]
    refine ⟨hs, fun h60 => ⟨⟨hl0, hsm, ha, hb⟩, ?_⟩⟩
    refine loopH_intro (α := Nat) (fun i => ([(0, .sl 1 (ls.map .str)), (3, .str x), (8, .bool false), (9, .ptr 0 2 1 0 0), (10, .ptr 1 2 1 0 0), (11, .sl 1 ((ls.set p1.toNat (over (ls.getD p1.toNat []) n (x.take i))).map .str)), (12, .int .i64 i)], [.arr 24 2 [.agg [.int .i64 p1, .int .i64 n]], .arr 24 2 [.agg [.int .i64 p1, .int .i64 (n + (x.take i).length : Nat)]]]))
      (fun i => i ≤ x.length ∧ ∀ k ∈ x.take i, letter k.toNat = true) (fun i => x.length - i) 0 ?_ ?_ ?_
    · simp
    · simp (maxSteps := 4000000) only [Pg.look, true_and, and_true, subA, subF, subG, pickOf, assocN, pairsE, pairsC, pairs0, frzE, frzC, frz0, frzH, Pg.freeze, List.foldl_nil, subOs, subO, subEv, subV, List.getElem?_cons_succ, List.getElem?_cons_zero, reduceCtorEq, Nat.reduceEqDiff, List.nil_append, List.append_nil, List.cons_append, List.length_nil, Nat.zero_add, ite_true, ite_false, and_self, Int.cast_ofNat_Int, List.take_zero, Nat.add_zero, Nat.lt_irrefl, Nat.not_lt_zero]
      exact ⟨rfl, subX_eq rfl rfl, by rw [over_nil, set_getD ls _ q2]⟩
    · intro i hi
      have htl : (x.take i).length = i := by rw [List.length_take]; omega
      have hfew : few ls := ⟨by omega, fun j => by have := hl2 j; omega⟩
      have hol := over_len (ls.getD p1.toNat []) n (x.take i) hn
      have hnow : few (ls.set p1.toNat (over (ls.getD p1.toNat []) n (x.take i))) := few_set hfew (by omega)
      have hsmn : small (ls.set p1.toNat (over (ls.getD p1.toNat []) n (x.take i))) := ⟨Nat.le_trans hnow.1 (by omega), fun j => Nat.le_trans (hnow.2 j) (by omega)⟩
      by_cases hi2 : i < x.length
      · have hct : decide ((i : Int) < (x.length : Int)) = true := decide_eq_true (by omega)
        by_cases hk : letter (x.getD i 0).toNat = true
        · have e1 := typ_over ls p1 n (x.take i) (x.getD i 0) (p1, n) q1 q2 hn hk
          have e2 := applyL_over ls p1 (over (ls.getD p1.toNat []) n (x.take i)) (over (ls.getD p1.toNat []) n (x.take i ++ [x.getD i 0])) q1 q2
          simp (maxSteps := 4000000) only [↓wpA_H, ↓wpH_skip, ↓wpH_ret, ↓wpH_seq, ↓wpH_cond, ↓wpH_block, ↓wpH_region, ↓iselH_true, ↓iselH_false, iselH_if, bselH_false, runH_nil, runH_cons, gw, gselH_plain, gselH_if, kselH_1, cselH_bool, gkind, ↓chk, justK, noW, ↓oneK, ↓pureK, ↓heapK, ↓thenA_normal, ↓thenA_ret, ↓blockA_normal, ↓blockA_ret, ↓stepEv, opnd, Pg.look, binK, intOp, dstOf, Bool.not_false, Bool.not_true, Bool.false_eq_true, false_implies, implies_true, imp_self, true_and, and_true, pickC, pickV, unc, gof, mux, mergeK, condsL, valV, heapV, footV, binV, intV, mergeable, look_stripE, ofV, ofLeaf, sameK, retA, resK, tupA, subA, subF, subG, pickOf, assocN, pairsE, pairsC, pairs0, frzE, frzC, frz0, frzH, Pg.freeze, List.foldl_nil, List.foldl_cons, subOs, subO, subEv, subV, ldCells, objAt, ↓callT, callC, callV, callH, normArgs, normA, normC, normL, normE, resL, res, shiftR, shift1, AV.cells, TK.cells, AV.definite, AV.leaf, AV.leafy, AV.pureLeaf, AV.pureB, putCells, lay, frzAt, Op.operands, List.getElem?_toArray, List.getElem?_cons_succ, List.getElem?_cons_zero, Option.bind_some, Option.getD_some, reduceCtorEq, Nat.reduceEqDiff, Nat.reduceAdd, List.nil_append, List.append_nil, List.cons_append, List.length_cons, List.length_nil, List.map_cons, List.map_nil, List.set_cons_zero, List.set_cons_succ, Nat.zero_add, ite_true, ite_false, Option.some.injEq, Option.isSome_some, Prod.mk.injEq, Bool.if_true_left, decide_eq_true_eq, decide_eq_false_iff_not, Int.not_lt, List.all_cons, List.all_nil, Bool.and_self, and_self, Bool.not_eq_true', exists_eq_left', pickOK_nil, cInt_dec, List.toList_toArray, rg1, cByte_dec, cStr_dec, cSl_dec, cAgg_dec, lOne_dec, lCons_dec, dec2_some, List.length_set, List.contains_nil, beq_self_eq_true, decL_nil, decL_cons, consO_some, List.range'_zero, Nat.reducePow, decL_str, C1by_ns, C1by_pre, C1by_r, C1by_H, optP_some, optV_some, optH_some, Int.toNat_natCast, List.getD_cons_zero, cutL, List.drop_zero, List.drop_succ_cons, List.take_succ_cons, List.take_zero, Nat.sub_zero, Nat.reduceLeDiff, Nat.le_refl, Nat.lt_irrefl, Nat.one_mul, List.drop_nil, List.take_nil, Nat.not_lt_zero, Nat.zero_lt_succ, tk9, tk24, tz24, dz24, tk33, tz33, dz33, eb33, tk47, kKnown, kText, kSPlace, kTyp, kApply, kRSize, aTyped, aPos, aCh, e1, e2, hct]
          refine ⟨by omega, fun h => ⟨h, by omega, by omega⟩, fun h => ⟨by omega, hsmn, ⟨by omega, fun y hy => ?_⟩, i + 1, ⟨by omega, fun k hk' => ?_⟩, by omega, rfl, ⟨subX_eq rfl rfl, subX_eq ?_ rfl⟩, ?_, by rw [wrap64 (by omega) (by omega)]; omega⟩⟩
          · simp only [List.mem_singleton] at hy
            subst hy
            exact ⟨by simp, by simp⟩
          · rw [take_succ_getD x i 0 hi2, List.mem_append, List.mem_singleton] at hk'
            rcases hk' with hk' | rfl
            · exact hi.2 k hk'
            · exact hk
          · have e3 : ((n + (x.take i).length : Nat) : Int) + 1 = (n + (x.take (i + 1)).length : Nat) := by rw [take_succ_getD x i 0 hi2, List.length_append, List.length_singleton]; omega
            rw [e3]
          · rw [take_succ_getD x i 0 hi2]
        · simp (maxSteps := 4000000) only [↓wpA_H, ↓wpH_skip, ↓wpH_ret, ↓wpH_seq, ↓wpH_cond, ↓wpH_block, ↓wpH_region, ↓iselH_true, iselH_if, bselH_false, runH_nil, runH_cons, gw, gselH_plain, gselH_if, kselH_1, cselH_bool, gkind, ↓chk, justK, noW, ↓oneK, ↓pureK, ↓heapK, ↓thenA_normal, ↓thenA_ret, ↓blockA_normal, ↓blockA_ret, ↓stepEv, opnd, Pg.look, binK, intOp, dstOf, Bool.false_eq_true, false_implies, implies_true, imp_self, true_and, and_true, pickC, pickV, unc, gof, mux, mergeK, condsL, valV, heapV, footV, binV, intV, mergeable, look_stripE, ofV, ofLeaf, sameK, retA, resK, tupA, subA, subF, subG, pickOf, assocN, pairsE, pairsC, pairs0, frzE, frzC, frz0, frzH, Pg.freeze, List.foldl_nil, List.foldl_cons, subOs, subO, subEv, subV, ldCells, objAt, ↓callT, callC, callV, callH, normArgs, normA, normC, normL, normE, resL, res, shiftR, shift1, AV.cells, TK.cells, AV.definite, AV.leaf, AV.leafy, AV.pureLeaf, AV.pureB, putCells, lay, frzAt, Op.operands, List.getElem?_toArray, List.getElem?_cons_succ, List.getElem?_cons_zero, Option.bind_some, Option.getD_some, reduceCtorEq, Nat.reduceEqDiff, Nat.reduceAdd, List.nil_append, List.append_nil, List.cons_append, List.length_cons, List.length_nil, List.map_cons, List.map_nil, List.set_cons_zero, List.set_cons_succ, Nat.zero_add, ite_true, ite_false, Option.some.injEq, Option.isSome_some, Prod.mk.injEq, Bool.if_true_left, decide_eq_true_eq, decide_eq_false_iff_not, Int.not_lt, List.all_cons, List.all_nil, Bool.and_self, and_self, Bool.not_eq_true', exists_eq_left', pickOK_nil, cInt_dec, List.toList_toArray, rg1, cByte_dec, cSl_dec, cAgg_dec, lOne_dec, lCons_dec, dec2_some, List.length_set, List.contains_nil, beq_self_eq_true, decL_nil, decL_cons, consO_some, List.range'_zero, Nat.reducePow, decL_str, C1by_ns, C1by_pre, C1by_r, C1by_H, optP_some, optV_some, optH_some, Int.toNat_natCast, List.getD_cons_zero, cutL, List.drop_zero, List.drop_succ_cons, List.take_succ_cons, List.take_zero, Nat.sub_zero, Nat.reduceLeDiff, Nat.le_refl, Nat.lt_irrefl, Nat.one_mul, List.drop_nil, List.take_nil, Nat.not_lt_zero, Nat.zero_lt_succ, tk9, tk24, tz24, dz24, tk33, tz33, dz33, eb33, tk47, kKnown, kText, kSPlace, kTyp, kApply, kRSize, aTyped, aPos, aCh, hct]
          refine ⟨by omega, fun h => ⟨h, by omega, by omega⟩, fun h => ?_⟩
          simp only [Bool.or_eq_false_iff, decide_eq_false_iff_not, beq_eq_false_iff_ne, ne_eq] at h
          exact absurd (letter_of _ (by omega) (by omega)) hk
      · have hxi : x.take i = x := List.take_of_length_le (by omega)
        rw [hxi] at hol hnow hsmn
        have hcf : decide ((i : Int) < (x.length : Int)) = false := decide_eq_false (by omega)
        have w2 : IntKind.i64.wrap ((n : Int) + x.length) = n + x.length := wrap64 (by omega) (by omega)
        have e4 : (ls.set p1.toNat (over (ls.getD p1.toNat []) n x)).getD p1.toNat [] = over (ls.getD p1.toNat []) n x := getD_set_self ls _ _ q2
        have e5 : size (ls.set p1.toNat (over (ls.getD p1.toNat []) n x)) = size ls - (ls.getD p1.toNat []).length + (over (ls.getD p1.toNat []) n x).length := size_set ls _ _ q2
        have e6 : (ls.getD p1.toNat []).drop (min ((n : Int) + x.length) ((ls.getD p1.toNat []).length : Int)).toNat = (ls.getD p1.toNat []).drop (n + x.length) := by
          have h6 : (min ((n : Int) + x.length) ((ls.getD p1.toNat []).length : Int)).toNat = min (n + x.length) (ls.getD p1.toNat []).length := by omega
          rw [h6]
          by_cases h5 : n + x.length ≤ (ls.getD p1.toNat []).length
          · rw [Nat.min_eq_left h5]
          · rw [Nat.min_eq_right (by omega), List.drop_length, List.drop_eq_nil_of_le (by omega)]
        simp (maxSteps := 4000000) only [↓wpA_H, ↓wpH_ret, ↓wpH_exit, ↓wpH_seq, ↓wpH_cond, ↓wpH_region, ↓iselH_false, bselH_false, runH_nil, runH_cons, gw, gselH_plain, gselH_if, kselH_1, cselH_bool, gkind, ↓chk, justK, noW, ↓oneK, ↓pureK, ↓heapK, ↓thenA_normal, ↓thenA_exit, ↓blockA_exit, ↓stepEv, opnd, Pg.look, binK, intOp, strOp, dstOf, Bool.false_eq_true, implies_true, imp_self, true_and, and_true, pickC, pickV, unc, gof, mux, mergeK, condsL, valV, heapV, footV, binV, intV, strV, cutV, mergeable, look_stripE, ofV, ofLeaf, sameK, retA, resK, tupA, subA, subF, subG, pickOf, frzE, frzC, frz0, frzH, Pg.freeze, List.foldl_nil, subOs, subEv, subV, ldCells, objAt, sliceS, ↓callT, callC, callV, normArgs, normA, normC, resL, res, shiftR, shift1, AV.cells, TK.cells, foldInts, Op.operands, Call.operands, Array.toList_append, List.getElem?_toArray, List.getElem?_cons_succ, List.getElem?_cons_zero, Option.bind_some, Option.map_some, Option.map_none, Option.getD_some, reduceCtorEq, Nat.reduceEqDiff, Nat.reduceAdd, List.nil_append, List.append_nil, List.cons_append, List.length_cons, List.length_nil, List.map_cons, List.map_nil, Nat.zero_add, ite_true, ite_false, Option.some.injEq, AV.int.injEq, Bool.if_false_right, Bool.decide_eq_true, Bool.and_self, and_self, exists_eq_left', pickOK_nil, List.length_map, List.toList_toArray, List.length_append, cSl_dec, lOne_dec, lCons_dec, List.length_set, List.contains_nil, List.range'_zero, decL_str, C1by_ns, C1by_pre, C1by_r, C1by_H, optP_some, optV_some, optH_some, getD_str, Int.toNat_natCast, List.getD_cons_zero, Nat.add_zero, Nat.zero_lt_succ, tk3, tk9, dz9, tk22, tk24, dz24, kKnown, kText, kSPlace, kTyp, kApply, kRSize, aTyped, aPos, aCh, ht, hxi, w2, e4, e6, hcf]
        have hsz := size_le ls 1200 hl2 ls.length (Nat.le_refl _)
        rw [List.take_length] at hsz
        have hsz2 : ((ls.length : Int)) * (((1200 : Nat) : Int) + 1) ≤ 40 * 1201 := Int.mul_le_mul (by omega) (by omega) (by omega) (by omega)
        have hc : (over (ls.getD p1.toNat []) n x == (ls.getD p1.toNat []).take n ++ x ++ (ls.getD p1.toNat []).drop (n + x.length)) = true := beq_self_eq_true _
        have hd : (((n + x.length : Nat) : Int) == (n : Int) + x.length) = true := by rw [beq_iff_eq]; omega
        rw [hc, hd, e5, hol]
        refine ⟨by omega, by omega, by omega, ?_, by omega, ?_, fun h => ⟨h, hnow⟩, fun h => ⟨h, hfew⟩, ?_⟩
        · simp only [List.length_take]; omega
        · simp only [List.length_take, List.length_drop]; omega
        · rw [wrap64 (n := (n : Int) + x.length - (ls.getD p1.toNat []).length) (by omega) (by omega), wrap64 (by omega) (by omega)]
          simp only [Bool.and_true, Bool.true_and, beq_iff_eq]
          omega
end Go.Pg
