/- What a range has, by the document; ranges by numbers. A range's text, a line's first byte, places brought to lines. -/
import Derived.Test.YtombifgcpghkgaaPgFx2
import Derived.Test.YtombifgcpghkgaaPgFx1
namespace Go.Pg
open Go Go.Proofs

def textLine (ls : Ls) (r : Rg) (i : Int) : List UInt8 := cutL (ls.getD i.toNat []) (cols (ls.getD i.toNat []).length r i).1.toNat (cols (ls.getD i.toNat []).length r i).2.toNat
def rtext (ls : Ls) (r : Rg) : Ls := if valid ls r = true then eachL r.2.1 r.2.2.2.1 (textLine ls r) else []

set_option maxRecDepth 20000 in
set_option maxHeartbeats 4000000 in
theorem calls_RText (ls : Ls) (r : Rg) (hs : small ls) :
    CallsR Try.prog 21 [.sl 1 (ls.map .str), aRg r] [] (.sl 1 ((rtext ls r).map .str)) [] := by
  refine callsR_of (mrg := true) (dyn := []) (CtrOK.cons ok_RValid (CtrOK.cons ok_RCols (CtrOK.nil _))) mixed Try.func21 rfl (by simp [Try.ntmps21]) (by kernel_rfl) ?_
  rw [show Try.f21.results.toList = [.tmp 4] from by kernel_rfl]
  cases hv : valid ls r with
  | false =>
    simp (maxSteps := 4000000) only [↓wpA_H, ↓wpH_ret, ↓wpH_seq, ↓wpH_cond, ↓wpH_region, ↓iselH_true, bselH_false, runH_nil, runH_cons, gw, gselH_plain, cselH_bool, ↓chk, justK, noW, ↓oneK, ↓pureK, ↓heapK, envOf, ↓thenA_normal, ↓thenA_ret, ↓stepEv, opnd, Pg.look, Bool.not_false, Bool.false_eq_true, false_implies, implies_true, true_and, and_true, valV, heapV, footV, ofV, ofLeaf, retA, resK, tupA, subA, subQ, ptrsE, frzO, subF, subG, pickOf, frzE, frzC, frz0, frzH, Pg.freeze, List.foldl_nil, subOs, subEv, subV_succ, subM, ldCells, objAt, ↓callT, callC, callV, callH, normArgs, normA, normC, resL, res8_eq, res_succ, resM, shiftR, shift1, AV.cells, TK.cells, AV.definite, List.getElem?_cons_zero, Option.getD_some, reduceCtorEq, Nat.reduceEqDiff, Nat.reduceAdd, List.nil_append, List.append_nil, List.cons_append, List.length_cons, List.length_nil, List.map_cons, List.map_nil, Nat.zero_add, ite_true, ite_false, Option.some.injEq, Prod.mk.injEq, and_self, exists_eq_left', pickOK_nil, cInt_dec, cSl_dec, cAgg_dec, lOne_dec, lCons_dec, dec2_some, List.contains_nil, List.range'_zero, decL_str, C1by_ns, C1by_pre, C1by_r, C1by_H, optP_some, optV_some, optH_some, List.getD_cons_zero, cutL, List.drop_zero, List.take_succ_cons, Nat.sub_zero, Nat.le_refl, List.take_nil, Nat.zero_lt_succ, tk29, dz29, kValid, kRCols, aRg, hv, rtext]
  | true =>
    obtain ⟨v1, v2, v3⟩ := valid_line hv
    have hl := hs.1
    obtain ⟨k, f1, f2, t1, t2⟩ := r
    simp only at v1 v2 v3
    have et : rtext ls (k, f1, f2, t1, t2) = eachL f1 t1 (textLine ls (k, f1, f2, t1, t2)) := if_pos hv
    rw [et]
    simp (maxSteps := 4000000) only [↓wpA_H, ↓wpH_skip, ↓wpH_seq, ↓wpH_cond, ↓wpH_block, ↓wpH_loop, ↓wpH_region, ↓iselH_false, bselH_false, runH_nil, runH_cons, gw, gselH_plain, cselH_bool, ↓chk, justK, noW, ↓oneK, ↓pureK, ↓heapK, envOf, ↓thenA_normal, ↓stepEv, opnd, Pg.look, Bool.not_true, Bool.false_eq_true, false_implies, implies_true, true_and, and_true, valV, heapV, footV, ofV, ofLeaf, Pg.freeze, List.foldl_nil, ldCells, objAt, ↓callT, callC, callV, callH, normArgs, normA, normC, resL, res8_eq, res_succ, resM, shiftR, shift1, AV.cells, TK.cells, AV.definite, List.getElem?_cons_succ, List.getElem?_cons_zero, Option.getD_some, reduceCtorEq, Nat.reduceEqDiff, Nat.reduceAdd, List.nil_append, List.append_nil, List.cons_append, List.length_cons, List.length_nil, List.map_cons, List.map_nil, Nat.zero_add, ite_true, ite_false, Option.some.injEq, Prod.mk.injEq, and_self, exists_eq_left', cInt_dec, cSl_dec, cAgg_dec, lOne_dec, lCons_dec, dec2_some, List.contains_nil, List.range'_zero, decL_str, C1by_ns, C1by_pre, C1by_r, C1by_H, optP_some, optV_some, optH_some, List.getD_cons_zero, cutL, List.drop_zero, List.take_succ_cons, Nat.add_zero, Nat.sub_zero, Nat.le_refl, List.take_nil, Nat.zero_lt_succ, tk3, tk27, tk29, dz29, kValid, kRCols, aRg, hv]
    refine loopH_intro (α := Nat) (fun i => ([(0, .sl 1 (ls.map .str)), (3, .ptr 0 5 1 0 0), (4, .nls), (5, .own 1 1 i), (6, .int .i64 (f1 + i))], [.arr 29 5 [.agg [.int .i64 k, .int .i64 f1, .int .i64 f2, .int .i64 t1, .int .i64 t2]], .arr 9 1 (((List.range i).map fun j : Nat => textLine ls (k, f1, f2, t1, t2) (f1 + j)).map .str)])) (fun i => f1 + i ≤ t1 + 1) (fun i => (t1 + 1 - f1).toNat - i) 0 (by omega) ?_ ?_
    · simp (maxSteps := 4000000) only [Pg.look, true_and, and_true, subA, subQ, ptrsE, pairsO, frzO, subF, subG, pickOf, assocN, pairsE, pairsC, pairsL, pairs0, frzE, frzC, frzL, frz0, frzH, Pg.freeze, List.foldl_nil, subOs, subO, subEv, subV_succ, subM, List.getElem?_cons_succ, List.getElem?_cons_zero, reduceCtorEq, Nat.reduceEqDiff, List.nil_append, List.append_nil, List.cons_append, List.map_nil, Nat.zero_add, ite_true, ite_false, and_self, List.range_zero, Int.cast_ofNat_Int, Nat.lt_irrefl, Nat.not_lt_zero]
      exact ⟨rfl, subX_eq rfl rfl, by omega⟩
    intro i hi
    have hrl : (List.range i).length = i := List.length_range
    have hmap : List.map (fun j : Nat => textLine ls (k, f1, f2, t1, t2) (f1 + j)) (List.range (i + 1)) = List.map (fun j : Nat => textLine ls (k, f1, f2, t1, t2) (f1 + j)) (List.range i) ++ [textLine ls (k, f1, f2, t1, t2) (f1 + i)] := by rw [List.range_succ]; simp
    by_cases hlt : f1 + i ≤ t1
    · have hct : decide (f1 + (i : Int) ≤ t1) = true := decide_eq_true hlt
      obtain ⟨a1, a2, a3, a4, a5⟩ := cols_ok hv (f1 + i) (by show f1 ≤ _; omega) hlt
      have hl2 := hs.2 (f1 + (i : Int)).toNat
      have w1 : IntKind.i64.wrap (f1 + (i : Int) + 1) = f1 + ((i + 1 : Nat) : Int) := by rw [wrap64 (by omega) (by omega)]; omega
      simp (maxSteps := 4000000) only [↓wpA_H, ↓wpH_skip, ↓wpH_seq, ↓wpH_cond, ↓wpH_block, ↓wpH_region, ↓iselH_true, iselH_if, bselH_false, runH_nil, runH_cons, gw, gselH_plain, cselH_bool, ↓chk, justK, noW, ↓oneK, ↓pureK, ↓heapK, ↓thenA_normal, ↓blockA_normal, ↓stepEv, opnd, Pg.look, binK, intOp, Bool.false_eq_true, false_implies, implies_true, true_and, and_true, valV, heapV, footV, binV, intV, cutV, ofV, ofLeaf, subA, subQ, ptrsE, pairsO, frzO, subF, subG, pickOf, assocN, pairsE, pairsC, pairsL, pairs0, frzE, frzC, frzL, frz0, frzH, Pg.freeze, List.foldl_nil, subOs, subO, subEv, subV_succ, subM, srcV, srcE, appK, ldCells, objAt, sliceS, ↓callT, callC, callV, callH, normArgs, normA, normC, resL, res8_eq, res_succ, resM, shiftR, shift1, AV.cells, TK.cells, AV.definite, AV.leaf, AV.leafy, List.getElem?_cons_succ, List.getElem?_cons_zero, Option.map_some, Option.map_none, Option.getD_some, reduceCtorEq, Nat.reduceEqDiff, Nat.reduceAdd, List.nil_append, List.append_nil, List.cons_append, List.length_cons, List.length_nil, List.map_cons, List.map_nil, List.set_cons_zero, List.set_cons_succ, Nat.zero_add, Int.reduceToNat, ite_true, ite_false, Option.some.injEq, Option.isSome_some, Prod.mk.injEq, List.all_cons, List.all_nil, Bool.and_self, and_self, exists_eq_left', List.length_map, cInt_dec, rg1, Int.reduceLE, cStr_dec, cAgg_dec, lOne_dec, lCons_dec, dec2_some, app1_str, List.contains_nil, beq_self_eq_true, List.range'_zero, Nat.reducePow, C1by_ns, C1by_pre, C1by_r, C1by_H, optP_some, optV_some, optH_some, getD_str, Int.toNat_natCast, List.getD_cons_zero, cutL, List.drop_zero, List.take_succ_cons, Nat.add_zero, Nat.sub_zero, Nat.reduceLeDiff, Nat.le_refl, Nat.lt_irrefl, Nat.mul_one, List.take_nil, Nat.not_lt_zero, Nat.zero_lt_succ, tk3, tk9, dz9, eb9, tk22, tk27, tk29, dz29, kValid, kRCols, hct, hrl, w1]
      have hfin : f1 + ((i + 1 : Nat) : Int) ≤ t1 + 1 := by omega
      obtain ⟨q0, q2⟩ : ((k == 0) = true → ((f1 + (i : Int) == f1) = true → 0 ≤ f2 ∧ f2 ≤ (ls.getD (f1 + (i : Int)).toNat []).length) ∧ ((f1 + (i : Int) == t1) = true → 0 ≤ t2 ∧ t2 ≤ (ls.getD (f1 + (i : Int)).toNat []).length) ∧ ((f1 + (i : Int) == f1) = true → (f1 + (i : Int) == t1) = true → f2 ≤ t2)) ∧
          ((k == 2) = true → 0 ≤ f2 ∧ f2 ≤ t2) := by
        refine ⟨fun h1 => ⟨fun h2 => ?_, fun h2 => ?_, fun h2 h3 => ?_⟩, fun h1 => ?_⟩
        · simp only [cols, h1, h2, if_true] at a3 a4 a5; omega
        · simp only [cols, h1, h2, if_true] at a3 a4 a5; omega
        · simp only [cols, h1, h2, h3, if_true] at a3 a4 a5; omega
        · have hv2 := hv
          simp only [beq_iff_eq] at h1
          subst h1
          simp [valid] at hv2
          omega
      refine ⟨by omega, fun h1 => ⟨fun h2 => ⟨fun h3 => ?_, fun h3 => ?_⟩, fun h2 => ⟨fun h3 => ?_, fun h3 => ?_⟩⟩, fun h1 => ⟨fun h2 => ?_, fun h2 => ?_⟩⟩
      · obtain ⟨b1, b2, b3⟩ := q0 h1
        have c1 := b1 h3
        have c2 := b2 h2
        have c3 := b3 h3 h2
        exact ⟨by omega, ⟨by decide, by omega⟩, i + 1, by omega, by omega, rfl, ⟨subX_eq rfl rfl, subX_eq (by rw [hmap]; simp only [textLine, cols, h1, h2, h3, if_true, cutL]) (pureB_strs _)⟩, rfl, rfl⟩
      · obtain ⟨b1, b2, b3⟩ := q0 h1
        have c2 := b2 h2
        exact ⟨by omega, ⟨by decide, by omega⟩, i + 1, by omega, by omega, rfl, ⟨subX_eq rfl rfl, subX_eq (by rw [hmap]; simp only [textLine, cols, h1, h2, h3, if_true, Bool.false_eq_true, if_false, cutL, Int.toNat_zero, Nat.sub_zero, List.drop_zero]) (pureB_strs _)⟩, rfl, rfl⟩
      · obtain ⟨b1, b2, b3⟩ := q0 h1
        have c1 := b1 h3
        exact ⟨by omega, ⟨by decide, by omega⟩, i + 1, by omega, by omega, rfl, ⟨subX_eq rfl rfl, subX_eq (by rw [hmap]; simp only [textLine, cols, h1, h2, h3, if_true, Bool.false_eq_true, if_false, cutL, Int.toNat_natCast]) (pureB_strs _)⟩, rfl, rfl⟩
      · exact ⟨by omega, ⟨by decide, by omega⟩, i + 1, by omega, by omega, rfl, ⟨subX_eq rfl rfl, subX_eq (by rw [hmap]; simp only [textLine, cols, h1, h2, h3, if_true, Bool.false_eq_true, if_false, cutL, Int.toNat_zero, Int.toNat_natCast, Nat.sub_zero, List.drop_zero]) (pureB_strs _)⟩, rfl, rfl⟩
      · obtain ⟨b1, b2⟩ := q2 h2
        have hcb : ∀ n i, cols n (k, f1, f2, t1, t2) i = rcols n (k, f1, f2, t1, t2) := fun n i => cols_block (by simpa using h2) b1 b2
        rw [hcb] at a3 a4 a5
        exact ⟨by omega, ⟨a3, a4, a5⟩, ⟨by decide, by omega⟩, i + 1, by omega, by omega, rfl, ⟨subX_eq rfl rfl, subX_eq (by rw [hmap]; simp only [textLine, hcb, cutL]) (pureB_strs _)⟩, rfl, rfl⟩
      · exact ⟨⟨by decide, by omega⟩, i + 1, by omega, by omega, rfl, ⟨subX_eq rfl rfl, subX_eq (by rw [hmap]; simp only [textLine, cols, h1, h2, Bool.false_eq_true, if_false, cutL, Int.toNat_zero, Int.toNat_natCast, Nat.sub_zero, List.drop_zero, List.take_length]) (pureB_strs _)⟩, rfl, rfl⟩
    · have hcf : decide (f1 + (i : Int) ≤ t1) = false := decide_eq_false hlt
      have hn : (t1 + 1 - f1).toNat = i := by omega
      simp (maxSteps := 4000000) only [↓wpA_H, ↓wpH_ret, ↓wpH_exit, ↓wpH_seq, ↓wpH_cond, ↓wpH_region, ↓iselH_false, bselH_false, runH_nil, runH_cons, gw, gselH_plain, cselH_bool, ↓chk, justK, noW, ↓oneK, ↓pureK, ↓heapK, ↓thenA_normal, ↓thenA_exit, ↓blockA_exit, ↓stepEv, opnd, Pg.look, binK, intOp, Bool.false_eq_true, implies_true, true_and, and_true, valV, heapV, footV, binV, intV, retA, resK, tupA, subA, subQ, ptrsE, frzO, subF, subG, pickOf, frzE, frzC, frz0, frzH, Pg.freeze, List.foldl_nil, List.foldl_cons, subOs, subEv, subV_succ, subM, ldCells, objAt, res_succ, resM, AV.cells, TK.cells, frzAt, List.getElem?_cons_succ, List.getElem?_cons_zero, Option.getD_some, reduceCtorEq, Nat.reduceEqDiff, List.append_nil, List.length_cons, List.length_nil, List.set_cons_zero, List.set_cons_succ, Nat.zero_add, ite_true, ite_false, Option.some.injEq, List.all_cons, List.all_nil, Bool.and_self, and_self, exists_eq_left', pickOK_nil, List.length_map, pureB_strs, resIn, List.contains_cons, List.contains_nil, Bool.or_false, beq_self_eq_true, List.getD_cons_zero, Nat.add_zero, Nat.zero_lt_succ, tk3, tk27, tk29, dz29, kValid, kRCols, hcf, hrl, eachL, hn]

def srange (ls : Ls) (k a b c d : Int) : Rg :=
  let n : Int := ls.length
  let fl := if a % n > b % n then b % n else a % n
  let tl := if a % n > b % n then a % n else b % n
  let fc := c % ((ls.getD fl.toNat []).length + 1)
  let tc := d % ((ls.getD tl.toNat []).length + 1)
  let s1 := fl == tl && decide (fc > tc)
  let fc1 := if s1 = true then tc else fc
  let tc1 := if s1 = true then fc else tc
  let s2 := k % 3 == 2 && decide (fc1 > tc1)
  (k % 3, fl, if s2 = true then tc1 else fc1, tl, if s2 = true then fc1 else tc1)

set_option maxRecDepth 20000 in
set_option maxHeartbeats 4000000 in
theorem calls_SRange (ls : Ls) (k a b c d : Int) (h0 : 0 < ls.length) (hs : few ls) (ha : 0 ≤ a ∧ a < 65536) (hb : 0 ≤ b ∧ b < 65536) (hc : 0 ≤ c ∧ c < 65536) (hd : 0 ≤ d ∧ d < 65536) (hk : 0 ≤ k ∧ k < 256) :
    CallsR Try.prog 13 [.sl 1 (ls.map .str), .int .u8 k, .int .u16 a, .int .u16 b, .int .u16 c, .int .u16 d] [] (aRg (srange ls k a b c d)) [] := by
  have hl := hs.1
  have w1 : IntKind.i64.wrap a = a := wrap64 (by omega) (by omega)
  have w2 : IntKind.i64.wrap b = b := wrap64 (by omega) (by omega)
  have w3 : IntKind.i64.wrap c = c := wrap64 (by omega) (by omega)
  have w4 : IntKind.i64.wrap d = d := wrap64 (by omega) (by omega)
  have e1 : ∀ m, a.tmod m = a % m := fun m => Int.tmod_eq_emod_of_nonneg ha.1
  have e2 : ∀ m, b.tmod m = b % m := fun m => Int.tmod_eq_emod_of_nonneg hb.1
  have e3 : ∀ m, c.tmod m = c % m := fun m => Int.tmod_eq_emod_of_nonneg hc.1
  have e4 : ∀ m, d.tmod m = d % m := fun m => Int.tmod_eq_emod_of_nonneg hd.1
  have e5 : k.tmod 3 = k % 3 := Int.tmod_eq_emod_of_nonneg hk.1
  have w5 : IntKind.i64.wrap (k % 3) = k % 3 := wrap64 (by omega) (by omega)
  have w6 : ∀ i, IntKind.i64.wrap (((ls.getD i []).length : Int) + 1) = (ls.getD i []).length + 1 := fun i => by
    have := hs.2 i
    exact wrap64 (by omega) (by omega)
  have x1 := Int.emod_nonneg a (b := ls.length) (by omega)
  have x2 := Int.emod_lt_of_pos a (b := ls.length) (by omega)
  have y1 := Int.emod_nonneg b (b := ls.length) (by omega)
  have y2 := Int.emod_lt_of_pos b (b := ls.length) (by omega)
  refine callsR_of (mrg := true) (dyn := []) (CtrOK.nil _) mixed Try.func13 rfl (by simp [Try.ntmps13]) (by kernel_rfl) ?_
  rw [show Try.f13.results.toList = [.cell 12 29] from by kernel_rfl]
  simp (maxSteps := 4000000) only [↓wpA_H, ↓wpH_skip, ↓wpH_ret, ↓wpH_seq, ↓wpH_cond, ↓wpH_region, iselH_if, bselH_false, runH_nil, runH_cons, gw, gselH_plain, gselH_if, kselH_1, cselH_bool, gkind, ↓chk, justK, noW, ↓oneK, ↓pureK, ↓heapK, envOf, ↓thenA_normal, ↓stepEv, opnd, Pg.look, binK, intOp, dstOf, Bool.false_eq_true, implies_true, imp_self, true_and, and_true, pickC, pickV, unc, gof, mux, mergeK, condsL, valV, heapV, footV, binV, intV, mergeable, look_stripE, ofV, ofLeaf, sameK, retA, resK, tupA, subA, subQ, ptrsE, frzO, subF, subG, pickOf, frzE, frzC, frzL, frz0, frzH, Pg.freeze, List.foldl_nil, subOs, subEv, subV_succ, subM, subL, slen, ldCells, objAt, res_succ, resM, AV.cells, TK.cells, AV.definite, AV.leaf, AV.leafy, putCells, lay, buildL, Op.operands, List.getElem?_toArray, List.getElem?_cons_succ, List.getElem?_cons_zero, Option.bind_some, Option.getD_some, reduceCtorEq, Nat.reduceEqDiff, Nat.reduceAdd, List.nil_append, List.append_nil, List.cons_append, List.length_cons, List.length_nil, List.map_cons, List.map_nil, List.set_cons_zero, List.set_cons_succ, Nat.zero_add, ite_true, ite_false, Option.some.injEq, Option.isSome_some, AV.int.injEq, AV.agg.injEq, Bool.if_false_right, Bool.decide_eq_true, decide_eq_true_eq, decide_eq_false_iff_not, Int.not_lt, ne_eq, not_false_eq_true, List.all_cons, List.all_nil, Bool.and_self, and_self, exists_eq_left', pickOK_nil, List.length_map, List.toList_toArray, List.contains_nil, getD_str, List.getD_cons_zero, cutL, List.drop_zero, List.drop_succ_cons, List.take_succ_cons, List.take_zero, Nat.add_zero, Nat.sub_zero, Nat.reduceLeDiff, Nat.le_refl, List.drop_nil, List.take_nil, Nat.zero_lt_succ, tk3, tk5, tk9, dz9, tk22, tk23, tk27, tz27, dz27, tk29, tz29, dz29, aRg, w1, w2, w3, w4, e1, e2, e3, e4, e5, w5, w6]
  refine ⟨by omega, by omega, fun h1 => ⟨by omega, by omega, by omega, by omega, fun h2 => ⟨by decide, fun h3 => ?_, fun h3 => ?_⟩, fun h2 => ⟨by decide, fun h3 => ?_, fun h3 => ?_⟩⟩, fun h1 => ⟨by omega, by omega, by omega, by omega, fun h2 => ⟨by decide, fun h3 => ?_, fun h3 => ?_⟩, fun h2 => ⟨by decide, fun h3 => ?_, fun h3 => ?_⟩⟩⟩
  all_goals first
    | (simp only [srange, h1, h2, h3, if_true, if_false, Bool.false_eq_true, and_self]; done)
    | (have h1' : ¬ (a % (ls.length : Int) > b % (ls.length : Int)) := by omega
       simp only [srange, h1', h2, h3, if_true, if_false, Bool.false_eq_true, and_self]; done)

theorem srange_valid (ls : Ls) (k a b c d : Int) (h0 : 0 < ls.length) (hc : 0 ≤ c) (hd : 0 ≤ d) : valid ls (srange ls k a b c d) = true := by
  have x1 := Int.emod_nonneg a (b := ls.length) (by omega)
  have x2 := Int.emod_lt_of_pos a (b := ls.length) (by omega)
  have y1 := Int.emod_nonneg b (b := ls.length) (by omega)
  have y2 := Int.emod_lt_of_pos b (b := ls.length) (by omega)
  simp only [srange]
  obtain ⟨fl, hfl⟩ : ∃ x, (if a % (ls.length : Int) > b % (ls.length : Int) then b % (ls.length : Int) else a % (ls.length : Int)) = x := ⟨_, rfl⟩
  obtain ⟨tl, htl⟩ : ∃ x, (if a % (ls.length : Int) > b % (ls.length : Int) then a % (ls.length : Int) else b % (ls.length : Int)) = x := ⟨_, rfl⟩
  rw [hfl, htl]
  have hft : 0 ≤ fl ∧ fl ≤ tl ∧ tl < ls.length := by
    rw [← hfl, ← htl]
    split <;> omega
  obtain ⟨fc, hfc⟩ : ∃ x, c % (((ls.getD fl.toNat []).length : Int) + 1) = x := ⟨_, rfl⟩
  obtain ⟨tc, htc⟩ : ∃ x, d % (((ls.getD tl.toNat []).length : Int) + 1) = x := ⟨_, rfl⟩
  rw [hfc, htc]
  have f1 : 0 ≤ fc ∧ fc ≤ (ls.getD fl.toNat []).length := by
    have g1 := Int.emod_nonneg c (b := ((ls.getD fl.toNat []).length : Int) + 1) (by omega)
    have g2 := Int.emod_lt_of_pos c (b := ((ls.getD fl.toNat []).length : Int) + 1) (by omega)
    omega
  have f2 : 0 ≤ tc ∧ tc ≤ (ls.getD tl.toNat []).length := by
    have g1 := Int.emod_nonneg d (b := ((ls.getD tl.toNat []).length : Int) + 1) (by omega)
    have g2 := Int.emod_lt_of_pos d (b := ((ls.getD tl.toNat []).length : Int) + 1) (by omega)
    omega
  have k0 : 0 ≤ k % 3 ∧ k % 3 < 3 := ⟨Int.emod_nonneg _ (by decide), Int.emod_lt_of_pos _ (by decide)⟩
  generalize k % 3 = kk at k0
  have fin : ∀ (fc' tc' : Int), (kk = 2 → 0 ≤ fc' ∧ fc' ≤ tc') → (kk = 0 → (0 ≤ fc' ∧ fc' ≤ (ls.getD fl.toNat []).length) ∧ (0 ≤ tc' ∧ tc' ≤ (ls.getD tl.toNat []).length) ∧ (fl = tl → fc' ≤ tc')) → valid ls (kk, fl, fc', tl, tc') = true := by
    intro fc' tc' h2 h0'
    have hA : (decide (fl < 0) || decide (fl > tl) || decide (tl ≥ (ls.length : Int))) = false := by
      simp only [Bool.or_eq_false_iff, decide_eq_false_iff_not]; omega
    simp only [valid, hA, Bool.not_false, Bool.true_and]
    rcases (by omega : kk = 0 ∨ kk = 1 ∨ kk = 2) with e | e | e
    · subst e
      obtain ⟨g1, g2, g3⟩ := h0' rfl
      have p1 : place ls fl fc' = true := (place_iff ..).2 ⟨hft.1, by omega, g1.1, g1.2⟩
      have p2 : place ls tl tc' = true := (place_iff ..).2 ⟨by omega, by omega, g2.1, g2.2⟩
      have p3 : less (tl, tc') (fl, fc') = false := by
        simp only [less, Bool.or_eq_false_iff, decide_eq_false_iff_not, Bool.and_eq_false_imp, beq_iff_eq]
        refine ⟨by omega, fun e => ?_⟩
        have := g3 e.symm
        omega
      rw [p1, p2, p3]; rfl
    · subst e; rfl
    · subst e
      obtain ⟨g1, g2⟩ := h2 rfl
      simp
      omega
  have hsw : ∀ x : Bool, x = (fl == tl && decide (fc > tc)) → (kk = 0 → (0 ≤ (if x = true then tc else fc) ∧ (if x = true then tc else fc) ≤ ((ls.getD fl.toNat []).length : Int)) ∧ (0 ≤ (if x = true then fc else tc) ∧ (if x = true then fc else tc) ≤ ((ls.getD tl.toNat []).length : Int)) ∧ (fl = tl → (if x = true then tc else fc) ≤ (if x = true then fc else tc))) ∧ 0 ≤ (if x = true then tc else fc) ∧ 0 ≤ (if x = true then fc else tc) := by
    intro x hx
    cases x with
    | true =>
      have hx := hx.symm
      simp only [Bool.and_eq_true, beq_iff_eq, decide_eq_true_eq] at hx
      obtain ⟨e, hlt⟩ := hx
      subst e
      simp only [if_true]
      exact ⟨fun _ => ⟨by omega, by omega, fun _ => by omega⟩, by omega, by omega⟩
    | false =>
      have hx := hx.symm
      simp only [Bool.false_eq_true, if_false]
      refine ⟨fun _ => ⟨f1, f2, fun e => ?_⟩, f1.1, f2.1⟩
      subst e
      simp only [beq_self_eq_true, Bool.true_and, decide_eq_false_iff_not] at hx
      omega
  obtain ⟨z1, z2, z3⟩ := hsw _ rfl
  generalize (if (fl == tl && decide (fc > tc)) = true then tc else fc) = u at z1 z2 ⊢
  generalize (if (fl == tl && decide (fc > tc)) = true then fc else tc) = v at z1 z3 ⊢
  cases hs2 : (kk == 2 && decide (u > v)) with
  | true =>
    simp only [Bool.and_eq_true, beq_iff_eq, decide_eq_true_eq] at hs2
    simp only [if_true]
    exact fin v u (fun _ => by omega) (fun h => by omega)
  | false =>
    simp only [Bool.false_eq_true, if_false]
    refine fin u v (fun h => ⟨z2, ?_⟩) z1
    subst h
    simp only [beq_self_eq_true, Bool.true_and, decide_eq_false_iff_not] at hs2
    omega

def kRText : C1 := C1.by [.sl 1 [], .id] (lCons cStrs (lOne cRg)) (fun d => small d.1) (fun d => .sl 1 ((rtext d.1 d.2).map .str)) (fun _ => [])
theorem ok_RText : C1OK Try.prog 21 kRText := C1OK.by (by kernel_rfl) (fun d h => calls_RText d.1 d.2 h) (fun _ => rfl) (fun _ => rfl)
def kSRange : C1 := C1.by [.sl 1 [], .id, .id, .id, .id, .id] (lCons cStrs (lCons (cInt .u8) (lCons (cInt .u16) (lCons (cInt .u16) (lCons (cInt .u16) (lOne (cInt .u16)))))))
  (fun d => 0 < d.1.length ∧ few d.1 ∧ (0 ≤ d.2.2.1 ∧ d.2.2.1 < 65536) ∧ (0 ≤ d.2.2.2.1 ∧ d.2.2.2.1 < 65536) ∧ (0 ≤ d.2.2.2.2.1 ∧ d.2.2.2.2.1 < 65536) ∧ (0 ≤ d.2.2.2.2.2 ∧ d.2.2.2.2.2 < 65536) ∧ (0 ≤ d.2.1 ∧ d.2.1 < 256))
  (fun d => aRg (srange d.1 d.2.1 d.2.2.1 d.2.2.2.1 d.2.2.2.2.1 d.2.2.2.2.2)) (fun _ => [])
theorem ok_SRange : C1OK Try.prog 13 kSRange := C1OK.by (by kernel_rfl) (fun d h => calls_SRange d.1 d.2.1 d.2.2.1 d.2.2.2.1 d.2.2.2.2.1 d.2.2.2.2.2 h.1 h.2.1 h.2.2.1 h.2.2.2.1 h.2.2.2.2.1 h.2.2.2.2.2.1 h.2.2.2.2.2.2) (fun _ => rfl) (fun _ => rfl)
end Go.Pg
namespace Go.Pg
open Go Go.Proofs

set_option maxRecDepth 20000 in
set_option maxHeartbeats 4000000 in
theorem calls_SText (ls : Ls) (r : Rg) (hs : small ls) :
    CallsR Try.prog 27 [.sl 1 (ls.map .str), aRg r] [] (.sl 1 ((rtext ls r).map .str)) [] := by
  refine callsR_of (mrg := true) (dyn := []) (CtrOK.cons ok_Valid (CtrOK.cons ok_Columns (CtrOK.nil _))) mixed Try.func27 rfl (by simp [Try.ntmps27]) (by kernel_rfl) ?_
  rw [show Try.f27.results.toList = [.tmp 4] from by kernel_rfl]
  cases hv : valid ls r with
  | false =>
    simp (maxSteps := 4000000) only [↓wpA_H, ↓wpH_ret, ↓wpH_seq, ↓wpH_cond, ↓wpH_region, ↓iselH_true, bselH_false, runH_nil, runH_cons, gw, gselH_plain, cselH_bool, ↓chk, justK, noW, ↓oneK, ↓pureK, ↓heapK, envOf, ↓thenA_normal, ↓thenA_ret, ↓stepEv, opnd, Pg.look, Bool.not_false, Bool.false_eq_true, false_implies, implies_true, true_and, and_true, valV, heapV, footV, ofV, ofLeaf, retA, resK, tupA, subA, subQ, ptrsE, frzO, subF, subG, pickOf, frzE, frzC, frz0, frzH, Pg.freeze, List.foldl_nil, subOs, subEv, subV_succ, subM, ldCells, objAt, ↓callT, callC, callV, callH, normArgs, normA, normC, resL, res8_eq, res_succ, resM, shiftR, shift1, AV.cells, TK.cells, AV.definite, List.getElem?_cons_zero, Option.getD_some, reduceCtorEq, Nat.reduceEqDiff, Nat.reduceAdd, List.nil_append, List.append_nil, List.cons_append, List.length_cons, List.length_nil, List.map_cons, List.map_nil, Nat.zero_add, ite_true, ite_false, Option.some.injEq, Prod.mk.injEq, and_self, exists_eq_left', pickOK_nil, cInt_dec, cSl_dec, cAgg_dec, lOne_dec, lCons_dec, dec2_some, List.contains_nil, List.range'_zero, decL_str, C1by_ns, C1by_pre, C1by_r, C1by_H, optP_some, optV_some, optH_some, List.getD_cons_zero, cutL, List.drop_zero, List.take_succ_cons, Nat.sub_zero, Nat.le_refl, List.take_nil, Nat.zero_lt_succ, tk29, dz29, kValid, kColumns, aRg, hv, rtext]
  | true =>
    obtain ⟨v1, v2, v3⟩ := valid_line hv
    have ht := valid_to hv
    have hl := hs.1
    obtain ⟨k, f1, f2, t1, t2⟩ := r
    simp only at v1 v2 v3 ht
    have et : rtext ls (k, f1, f2, t1, t2) = eachL f1 t1 (textLine ls (k, f1, f2, t1, t2)) := if_pos hv
    rw [et]
    simp (maxSteps := 4000000) only [↓wpA_H, ↓wpH_skip, ↓wpH_seq, ↓wpH_cond, ↓wpH_block, ↓wpH_loop, ↓wpH_region, ↓iselH_false, bselH_false, runH_nil, runH_cons, gw, gselH_plain, cselH_bool, ↓chk, justK, noW, ↓oneK, ↓pureK, ↓heapK, envOf, ↓thenA_normal, ↓stepEv, opnd, Pg.look, Bool.not_true, Bool.false_eq_true, false_implies, implies_true, true_and, and_true, valV, heapV, footV, ofV, ofLeaf, Pg.freeze, List.foldl_nil, ldCells, objAt, ↓callT, callC, callV, callH, normArgs, normA, normC, resL, res8_eq, res_succ, resM, shiftR, shift1, AV.cells, TK.cells, AV.definite, List.getElem?_cons_succ, List.getElem?_cons_zero, Option.getD_some, reduceCtorEq, Nat.reduceEqDiff, Nat.reduceAdd, List.nil_append, List.append_nil, List.cons_append, List.length_cons, List.length_nil, List.map_cons, List.map_nil, Nat.zero_add, ite_true, ite_false, Option.some.injEq, Prod.mk.injEq, and_self, exists_eq_left', cInt_dec, cSl_dec, cAgg_dec, lOne_dec, lCons_dec, dec2_some, List.contains_nil, List.range'_zero, decL_str, C1by_ns, C1by_pre, C1by_r, C1by_H, optP_some, optV_some, optH_some, List.getD_cons_zero, cutL, List.drop_zero, List.take_succ_cons, Nat.add_zero, Nat.sub_zero, Nat.le_refl, List.take_nil, Nat.zero_lt_succ, tk3, tk27, tk29, dz29, kValid, kColumns, aRg, hv]
    refine loopH_intro (α := Nat) (fun i => ([(0, .sl 1 (ls.map .str)), (3, .ptr 0 5 1 0 0), (4, .nls), (5, .own 1 1 i), (6, .int .i64 (f1 + i))], [.arr 29 5 [.agg [.int .i64 k, .int .i64 f1, .int .i64 f2, .int .i64 t1, .int .i64 t2]], .arr 9 1 (((List.range i).map fun j : Nat => textLine ls (k, f1, f2, t1, t2) (f1 + j)).map .str)])) (fun i => f1 + i ≤ t1 + 1) (fun i => (t1 + 1 - f1).toNat - i) 0 (by omega) ?_ ?_
    · simp (maxSteps := 4000000) only [Pg.look, true_and, and_true, subA, subQ, ptrsE, pairsO, frzO, subF, subG, pickOf, assocN, pairsE, pairsC, pairsL, pairs0, frzE, frzC, frzL, frz0, frzH, Pg.freeze, List.foldl_nil, subOs, subO, subEv, subV_succ, subM, List.getElem?_cons_succ, List.getElem?_cons_zero, reduceCtorEq, Nat.reduceEqDiff, List.nil_append, List.append_nil, List.cons_append, List.map_nil, Nat.zero_add, ite_true, ite_false, and_self, List.range_zero, Int.cast_ofNat_Int, Nat.lt_irrefl, Nat.not_lt_zero]
      exact ⟨rfl, subX_eq rfl rfl, by omega⟩
    intro i hi
    have hrl : (List.range i).length = i := List.length_range
    have hmap : List.map (fun j : Nat => textLine ls (k, f1, f2, t1, t2) (f1 + j)) (List.range (i + 1)) = List.map (fun j : Nat => textLine ls (k, f1, f2, t1, t2) (f1 + j)) (List.range i) ++ [textLine ls (k, f1, f2, t1, t2) (f1 + i)] := by rw [List.range_succ]; simp
    by_cases hlt : f1 + i ≤ t1
    · have hct : decide (f1 + (i : Int) ≤ t1) = true := decide_eq_true hlt
      obtain ⟨a1, a2, a3, a4, a5⟩ := cols_ok hv (f1 + i) (by show f1 ≤ _; omega) hlt
      have hl2 := hs.2 (f1 + (i : Int)).toNat
      have w1 : IntKind.i64.wrap (f1 + (i : Int) + 1) = f1 + ((i + 1 : Nat) : Int) := by rw [wrap64 (by omega) (by omega)]; omega
      simp (maxSteps := 4000000) only [↓wpA_H, ↓wpH_skip, ↓wpH_seq, ↓wpH_cond, ↓wpH_block, ↓wpH_region, ↓iselH_true, bselH_false, runH_nil, runH_cons, gw, gselH_plain, cselH_bool, ↓chk, justK, noW, ↓oneK, ↓pureK, ↓heapK, ↓thenA_normal, ↓blockA_normal, ↓stepEv, opnd, Pg.look, binK, intOp, Bool.false_eq_true, false_implies, implies_true, true_and, and_true, valV, heapV, footV, binV, intV, cutV, ofV, ofLeaf, subA, subQ, ptrsE, pairsO, frzO, subF, subG, pickOf, assocN, pairsE, pairsC, pairsL, pairs0, frzE, frzC, frzL, frz0, frzH, Pg.freeze, List.foldl_nil, subOs, subO, subEv, subV_succ, subM, srcV, srcE, appK, ldCells, objAt, sliceS, ↓callT, callC, callV, callH, normArgs, normA, normC, resL, res8_eq, res_succ, resM, shiftR, shift1, AV.cells, TK.cells, AV.definite, AV.leaf, AV.leafy, List.getElem?_cons_succ, List.getElem?_cons_zero, Option.map_some, Option.map_none, Option.getD_some, reduceCtorEq, Nat.reduceEqDiff, Nat.reduceAdd, List.nil_append, List.append_nil, List.cons_append, List.length_cons, List.length_nil, List.map_cons, List.map_nil, List.set_cons_zero, List.set_cons_succ, Nat.zero_add, ite_true, ite_false, Option.some.injEq, Option.isSome_some, Prod.mk.injEq, List.all_cons, List.all_nil, Bool.and_self, and_self, exists_eq_left', List.length_map, cInt_dec, rg1, cSl_dec, cAgg_dec, lOne_dec, lCons_dec, dec2_some, app1_str, List.contains_nil, beq_self_eq_true, List.range'_zero, Nat.reducePow, decL_str, C1by_ns, C1by_pre, C1by_r, C1by_H, optP_some, optV_some, optH_some, getD_str, List.getD_cons_zero, cutL, List.drop_zero, List.take_succ_cons, Nat.add_zero, Nat.sub_zero, Nat.reduceLeDiff, Nat.le_refl, Nat.lt_irrefl, Nat.mul_one, List.take_nil, Nat.not_lt_zero, Nat.zero_lt_succ, tk3, tk9, dz9, eb9, tk22, tk27, tk29, dz29, kValid, kColumns, hct, hrl, w1]
      exact ⟨⟨⟨by omega, by omega⟩, fun j => by have := hs.2 j; omega, ht⟩, ⟨by omega, by omega⟩, ⟨a3, a4, a5⟩, ⟨by decide, by omega⟩, i + 1, by omega, by omega, rfl, ⟨subX_eq rfl rfl, subX_eq (by rw [hmap]; rfl) (pureB_strs _)⟩, rfl, rfl⟩
    · have hcf : decide (f1 + (i : Int) ≤ t1) = false := decide_eq_false hlt
      have hn : (t1 + 1 - f1).toNat = i := by omega
      simp (maxSteps := 4000000) only [↓wpA_H, ↓wpH_ret, ↓wpH_exit, ↓wpH_seq, ↓wpH_cond, ↓wpH_region, ↓iselH_false, bselH_false, runH_nil, runH_cons, gw, gselH_plain, cselH_bool, ↓chk, justK, noW, ↓oneK, ↓pureK, ↓heapK, ↓thenA_normal, ↓thenA_exit, ↓blockA_exit, ↓stepEv, opnd, Pg.look, binK, intOp, Bool.false_eq_true, implies_true, true_and, and_true, valV, heapV, footV, binV, intV, retA, resK, tupA, subA, subQ, ptrsE, frzO, subF, subG, pickOf, frzE, frzC, frz0, frzH, Pg.freeze, List.foldl_nil, List.foldl_cons, subOs, subEv, subV_succ, subM, ldCells, objAt, res_succ, resM, AV.cells, TK.cells, frzAt, List.getElem?_cons_succ, List.getElem?_cons_zero, Option.getD_some, reduceCtorEq, Nat.reduceEqDiff, List.append_nil, List.length_cons, List.length_nil, List.set_cons_zero, List.set_cons_succ, Nat.zero_add, ite_true, ite_false, Option.some.injEq, List.all_cons, List.all_nil, Bool.and_self, and_self, exists_eq_left', pickOK_nil, List.length_map, pureB_strs, resIn, List.contains_cons, List.contains_nil, Bool.or_false, beq_self_eq_true, List.getD_cons_zero, Nat.add_zero, Nat.zero_lt_succ, tk3, tk27, tk29, dz29, kValid, kColumns, hcf, hrl, eachL, hn]

/-- A line's first byte that is no blank, or its last one. -/
def firstC (s : List UInt8) : Int := if (s.takeWhile blank).length < s.length then (s.takeWhile blank).length else max ((s.length : Int) - 1) 0

theorem tw_step {p : UInt8 → Bool} : ∀ (s : List UInt8) (i : Nat), i ≤ (s.takeWhile p).length → i < s.length → (p (s.getD i 0) = true → i + 1 ≤ (s.takeWhile p).length) ∧ (p (s.getD i 0) = false → (s.takeWhile p).length = i)
  | [], i, _, h => by simp at h
  | b :: s, i, h1, h2 => by
    cases hb : p b with
    | false =>
      rw [List.takeWhile_cons_of_neg (by simp [hb])] at h1 ⊢
      have : i = 0 := by simpa using h1
      subst this
      simp [hb]
    | true =>
      rw [List.takeWhile_cons_of_pos hb] at h1 ⊢
      cases i with
      | zero => simp [hb]
      | succ i =>
        have := tw_step s i (by simpa using h1) (by simpa using h2)
        simpa using this
theorem tw_le (s : List UInt8) : (s.takeWhile blank).length ≤ s.length := (List.takeWhile_sublist _).length_le
theorem cls_blank (b : UInt8) : (cls (b.toNat : Int) true != 0) = !blank b := by
  unfold cls blank
  have h1 : ((b.toNat : Int) == 32) = (b == 32) := by
    rw [Bool.eq_iff_iff, beq_iff_eq, beq_iff_eq]
    exact ⟨fun h => UInt8.toNat_inj.1 (by show _ = 32; omega), fun h => by subst h; rfl⟩
  have h2 : ((b.toNat : Int) == 9) = (b == 9) := by
    rw [Bool.eq_iff_iff, beq_iff_eq, beq_iff_eq]
    exact ⟨fun h => UInt8.toNat_inj.1 (by show _ = 9; omega), fun h => by subst h; rfl⟩
  rw [h1, h2]
  cases (b == 32 || b == 9) <;> simp

set_option maxHeartbeats 4000000 in
theorem calls_First (s : List UInt8) (hs : s.length ≤ 140737488355328) : CallsR Try.prog 49 [.str s] [] (.int .i64 (firstC s)) [] := by
  refine callsR_of (mrg := true) (dyn := []) (CtrOK.cons ok_Of (CtrOK.nil _)) mixed Try.func49 rfl (by simp [Try.ntmps49]) (by kernel_rfl) ?_
  rw [show Try.f49.results.toList = [.tmp 2] from by kernel_rfl]
  simp (maxSteps := 4000000) only [↓wpA_H, ↓wpH_seq, ↓wpH_block, ↓wpH_loop, ↓wpH_region, bselH_false, runH_nil, runH_cons, gw, gselH_plain, ↓chk, justK, ↓oneK, ↓pureK, envOf, ↓thenA_normal, ↓stepEv, opnd, Pg.look, Bool.false_eq_true, implies_true, true_and, valV, heapV, footV, ofV, ofLeaf, reduceCtorEq, Nat.reduceEqDiff, List.length_nil, ite_true, ite_false, and_self, List.contains_nil, tk9, kOf]
  refine loopH_intro (α := Nat) (fun i => ([(0, .str s), (2, .int .i64 0), (5, .int .i64 s.length), (6, .int .i64 i)], [])) (fun i => i ≤ (s.takeWhile blank).length) (fun i => s.length - i) 0 (by omega) ?_ ?_
  · simp (maxSteps := 4000000) only [Pg.look, subA, subQ, ptrsE, frzO, subF, subG, pickOf, frzE, frzC, frz0, frzH, Pg.freeze, List.foldl_nil, subOs, subEv, subV_succ, subM, reduceCtorEq, Nat.reduceEqDiff, List.append_nil, ite_true, ite_false, and_self, pickOK_nil, Int.cast_ofNat_Int]
  intro i hi
  have hle := tw_le s
  by_cases hlt : i < s.length
  · have hct : decide ((i : Int) < s.length) = true := decide_eq_true (by omega)
    obtain ⟨g1, g2⟩ := tw_step s i hi hlt
    simp (maxSteps := 4000000) only [↓wpA_H, ↓wpH_skip, ↓wpH_ret, ↓wpH_seq, ↓wpH_cond, ↓wpH_block, ↓wpH_region, ↓iselH_true, iselH_if, bselH_false, runH_nil, runH_cons, gw, gselH_plain, cselH_bool, ↓chk, justK, ↓oneK, ↓pureK, ↓thenA_normal, ↓thenA_ret, ↓blockA_normal, ↓blockA_ret, ↓stepEv, opnd, Pg.look, binK, intOp, Bool.false_eq_true, implies_true, true_and, and_true, valV, heapV, footV, binV, intV, ofV, ofLeaf, retA, resK, tupA, subA, subQ, ptrsE, frzO, subF, subG, pickOf, frzE, frzC, frz0, frzH, Pg.freeze, List.foldl_nil, subOs, subEv, subV_succ, subM, ↓callT, callC, callV, callH, normArgs, normA, resL, res8_eq, res_succ, resM, shiftR, shift1, reduceCtorEq, Nat.reduceEqDiff, List.append_nil, List.length_nil, List.map_cons, List.map_nil, ite_true, ite_false, and_self, Bool.not_eq_true', pickOK_nil, cInt_dec, cBool_dec, lOne_dec, lCons_dec, dec2_some, List.contains_nil, List.range'_zero, C1by_ns, C1by_pre, C1by_r, C1by_H, optP_some, optV_some, optH_some, Int.toNat_natCast, tk9, kOf, hct, cls_blank]
    refine ⟨⟨by omega, hlt⟩, fun hb => ?_, fun hb => ?_⟩
    · unfold firstC
      rw [g2 hb, if_pos hlt]
    · have hb2 : blank (s.getD i 0) = true := by simpa using hb
      exact ⟨i + 1, g1 hb2, by omega, by rw [wrap64 (by omega) (by omega)]; rfl⟩
  · have hcf : decide ((i : Int) < s.length) = false := decide_eq_false (by omega)
    simp (maxSteps := 4000000) only [↓wpA_H, ↓wpH_ret, ↓wpH_exit, ↓wpH_seq, ↓wpH_cond, ↓wpH_region, ↓iselH_false, bselH_false, runH_nil, runH_cons, gw, gselH_plain, cselH_bool, ↓chk, justK, ↓oneK, ↓pureK, ↓thenA_normal, ↓thenA_exit, ↓blockA_exit, ↓stepEv, opnd, Pg.look, binK, intOp, Bool.false_eq_true, implies_true, true_and, and_true, valV, heapV, footV, binV, intV, ofV, ofLeaf, retA, resK, tupA, subA, subQ, ptrsE, frzO, subF, subG, pickOf, frzE, frzC, frz0, frzH, Pg.freeze, List.foldl_nil, subOs, subEv, subV_succ, subM, foldInts, Option.getD_some, reduceCtorEq, Nat.reduceEqDiff, List.append_nil, List.length_nil, List.map_cons, List.map_nil, ite_true, ite_false, Option.some.injEq, AV.int.injEq, and_self, exists_eq_left', pickOK_nil, List.contains_nil, tk9, kOf, hcf]
    unfold firstC
    rw [if_neg (by omega), wrap64 (by omega) (by omega)]

set_option maxHeartbeats 4000000 in
theorem calls_RFirst (s : List UInt8) (hs : s.length ≤ 140737488355328) : CallsR Try.prog 19 [.str s] [] (.int .i64 (firstC s)) [] := by
  refine callsR_of (mrg := true) (dyn := []) (CtrOK.cons ok_ROf (CtrOK.nil _)) mixed Try.func19 rfl (by simp [Try.ntmps19]) (by kernel_rfl) ?_
  rw [show Try.f19.results.toList = [.tmp 2] from by kernel_rfl]
  simp (maxSteps := 4000000) only [↓wpA_H, ↓wpH_seq, ↓wpH_block, ↓wpH_loop, ↓wpH_region, bselH_false, runH_nil, runH_cons, gw, gselH_plain, ↓chk, justK, ↓oneK, ↓pureK, envOf, ↓thenA_normal, ↓stepEv, opnd, Bool.false_eq_true, implies_true, true_and, valV, heapV, footV, ofV, ofLeaf, List.length_nil, and_self, List.contains_nil, kOf]
  refine loopH_intro (α := Nat) (fun i => ([(0, .str s), (2, .int .i64 0), (3, .int .i64 i)], [])) (fun i => i ≤ (s.takeWhile blank).length) (fun i => s.length - i) 0 (by omega) ?_ ?_
  · simp (maxSteps := 4000000) only [Pg.look, subA, subQ, ptrsE, frzO, subF, subG, pickOf, frzE, frzC, frz0, frzH, Pg.freeze, List.foldl_nil, subOs, subEv, subV_succ, subM, reduceCtorEq, Nat.reduceEqDiff, List.append_nil, ite_true, ite_false, and_self, pickOK_nil, Int.cast_ofNat_Int]
    skip
  intro i hi
  have hle := tw_le s
  by_cases hlt : i < s.length
  · have hct : decide ((i : Int) < s.length) = true := decide_eq_true (by omega)
    obtain ⟨g1, g2⟩ := tw_step s i hi hlt
    simp (maxSteps := 4000000) only [↓wpA_H, ↓wpH_skip, ↓wpH_ret, ↓wpH_seq, ↓wpH_cond, ↓wpH_block, ↓wpH_region, ↓iselH_true, iselH_if, bselH_false, runH_nil, runH_cons, gw, gselH_plain, cselH_bool, ↓chk, justK, ↓oneK, ↓pureK, ↓thenA_normal, ↓thenA_ret, ↓blockA_normal, ↓blockA_ret, ↓stepEv, opnd, Pg.look, binK, intOp, Bool.false_eq_true, implies_true, true_and, and_true, valV, heapV, footV, binV, intV, ofV, ofLeaf, retA, resK, tupA, subA, subQ, ptrsE, frzO, subF, subG, pickOf, frzE, frzC, frz0, frzH, Pg.freeze, List.foldl_nil, subOs, subEv, subV_succ, subM, ↓callT, callC, callV, callH, normArgs, normA, resL, res8_eq, res_succ, resM, shiftR, shift1, reduceCtorEq, Nat.reduceEqDiff, List.append_nil, List.length_nil, List.map_cons, List.map_nil, ite_true, ite_false, and_self, Bool.not_eq_true', pickOK_nil, cInt_dec, cBool_dec, lOne_dec, lCons_dec, dec2_some, List.contains_nil, List.range'_zero, C1by_ns, C1by_pre, C1by_r, C1by_H, optP_some, optV_some, optH_some, Int.toNat_natCast, tk9, kOf, hct, cls_blank]
    refine ⟨⟨by omega, hlt⟩, fun hb => ?_, fun hb => ?_⟩
    · unfold firstC
      rw [g2 hb, if_pos hlt]
    · have hb2 : blank (s.getD i 0) = true := by simpa using hb
      exact ⟨i + 1, g1 hb2, by omega, by rw [wrap64 (by omega) (by omega)]; rfl⟩
  · have hcf : decide ((i : Int) < s.length) = false := decide_eq_false (by omega)
    simp (maxSteps := 4000000) only [↓wpA_H, ↓wpH_ret, ↓wpH_exit, ↓wpH_seq, ↓wpH_cond, ↓wpH_region, ↓iselH_false, bselH_false, runH_nil, runH_cons, gw, gselH_plain, cselH_bool, ↓chk, justK, ↓oneK, ↓pureK, ↓thenA_normal, ↓thenA_exit, ↓blockA_exit, ↓stepEv, opnd, Pg.look, binK, intOp, Bool.false_eq_true, implies_true, true_and, and_true, valV, heapV, footV, binV, intV, ofV, ofLeaf, retA, resK, tupA, subA, subQ, ptrsE, frzO, subF, subG, pickOf, frzE, frzC, frz0, frzH, Pg.freeze, List.foldl_nil, subOs, subEv, subV_succ, subM, foldInts, Option.getD_some, reduceCtorEq, Nat.reduceEqDiff, List.append_nil, List.length_nil, List.map_cons, List.map_nil, ite_true, ite_false, Option.some.injEq, AV.int.injEq, and_self, exists_eq_left', pickOK_nil, List.contains_nil, tk9, kOf, hcf]
    unfold firstC
    rw [if_neg (by omega), wrap64 (by omega) (by omega)]

def clampP (ls : Ls) (p : Int × Int) (past : Bool) : Int × Int :=
  if ls.length = 0 then (0, 0) else
  let l := min (max p.1 0) ((ls.length : Int) - 1)
  let m : Int := (ls.getD l.toNat []).length
  (l, min (max p.2 0) (if past = true then m else max (m - 1) 0))

set_option maxHeartbeats 4000000 in
theorem calls_Clamp (ls : Ls) (p : Int × Int) (past : Bool) (hs : small ls) : CallsR Try.prog 32 [.sl 1 (ls.map .str), aPos p, .bool past] [] (aPos (clampP ls p past)) [] := by
  obtain ⟨p1, p2⟩ := p
  refine callsR_of (mrg := true) (dyn := []) (CtrOK.nil _) mixed Try.func32 rfl (by simp [Try.ntmps32]) (by kernel_rfl) ?_
  rw [show Try.f32.results.toList = [.cell 6 27] from by kernel_rfl]
  simp (maxSteps := 4000000) only [↓wpA_H, ↓wpH_skip, ↓wpH_ret, ↓wpH_seq, ↓wpH_cond, ↓wpH_region, iselH_if, bselH_false, runH_nil, runH_cons, gw, gselH_plain, cselH_bool, ↓chk, justK, noW, ↓oneK, ↓pureK, ↓heapK, envOf, ↓thenA_normal, ↓thenA_ret, ↓stepEv, opnd, Pg.look, binK, intOp, Bool.false_eq_true, implies_true, true_and, and_true, valV, heapV, footV, binV, intV, ofV, ofLeaf, retA, resK, tupA, subA, subQ, ptrsE, frzO, subF, subG, pickOf, frzE, frzC, frzL, frz0, frzH, Pg.freeze, List.foldl_nil, subOs, subEv, subV_succ, subM, subL, slen, ldCells, objAt, res_succ, resM, AV.cells, TK.cells, AV.definite, AV.leaf, AV.leafy, putCells, lay, buildL, foldInts, List.getElem?_cons_succ, List.getElem?_cons_zero, Option.getD_some, reduceCtorEq, Nat.reduceEqDiff, Nat.reduceAdd, List.nil_append, List.append_nil, List.cons_append, List.length_cons, List.length_nil, List.map_cons, List.map_nil, List.set_cons_zero, List.set_cons_succ, Nat.zero_add, ite_true, ite_false, Option.some.injEq, Option.isSome_some, AV.int.injEq, AV.agg.injEq, List.all_cons, List.all_nil, Bool.and_self, and_self, Bool.not_eq_true', exists_eq_left', pickOK_nil, List.length_map, List.contains_nil, getD_str, List.getD_cons_zero, cutL, List.drop_zero, List.drop_succ_cons, List.take_succ_cons, List.take_zero, Nat.add_zero, Nat.sub_zero, Nat.reduceLeDiff, Nat.le_refl, List.drop_nil, List.take_nil, Nat.zero_lt_succ, tk3, tk9, dz9, tk22, tk27, tz27, dz27, aPos]
  have hl := hs.1
  have hw : IntKind.i64.wrap ((ls.length : Int) - 1) = (ls.length : Int) - 1 := wrap64 (by omega) (by omega)
  rw [hw]
  refine ⟨fun h => ?_, fun h => ?_⟩
  · have h0 : ls.length = 0 := by simpa using h
    simp [clampP, h0]
  · have h0 : ls.length ≠ 0 := by simpa using h
    have h2 := hs.2 (min (max p1 0) ((ls.length : Int) - 1)).toNat
    refine ⟨⟨by omega, by omega⟩, fun hp => ?_, fun hp => ?_⟩
    · subst hp
      rw [wrap64 (by omega) (by omega)]
      simp [clampP, h0]
    · have : past = true := by simpa using hp
      subst this
      simp [clampP, h0]

set_option maxHeartbeats 4000000 in
theorem calls_RClamp (ls : Ls) (p : Int × Int) (past : Bool) (hs : small ls) : CallsR Try.prog 17 [.sl 1 (ls.map .str), aPos p, .bool past] [] (aPos (clampP ls p past)) [] := by
  obtain ⟨p1, p2⟩ := p
  refine callsR_of (mrg := true) (dyn := []) (CtrOK.nil _) mixed Try.func17 rfl (by simp [Try.ntmps17]) (by kernel_rfl) ?_
  rw [show Try.f17.results.toList = [.cell 6 27] from by kernel_rfl]
  simp (maxSteps := 4000000) only [↓wpA_H, ↓wpH_skip, ↓wpH_ret, ↓wpH_seq, ↓wpH_cond, ↓wpH_region, iselH_if, bselH_false, runH_nil, runH_cons, gw, gselH_plain, cselH_bool, ↓chk, justK, noW, ↓oneK, ↓pureK, ↓heapK, envOf, ↓thenA_normal, ↓thenA_ret, ↓stepEv, opnd, Pg.look, binK, intOp, Bool.false_eq_true, implies_true, true_and, and_true, valV, heapV, footV, binV, intV, ofV, ofLeaf, retA, resK, tupA, subA, subQ, ptrsE, frzO, subF, subG, pickOf, frzE, frzC, frzL, frz0, frzH, Pg.freeze, List.foldl_nil, subOs, subEv, subV_succ, subM, subL, slen, ldCells, objAt, res_succ, resM, AV.cells, TK.cells, AV.definite, AV.leaf, AV.leafy, putCells, lay, buildL, foldInts, List.getElem?_cons_succ, List.getElem?_cons_zero, Option.getD_some, reduceCtorEq, Nat.reduceEqDiff, Nat.reduceAdd, List.nil_append, List.append_nil, List.cons_append, List.length_cons, List.length_nil, List.map_cons, List.map_nil, List.set_cons_zero, List.set_cons_succ, Nat.zero_add, ite_true, ite_false, Option.some.injEq, Option.isSome_some, AV.int.injEq, AV.agg.injEq, List.all_cons, List.all_nil, Bool.and_self, and_self, Bool.not_eq_true', exists_eq_left', pickOK_nil, List.length_map, List.contains_nil, getD_str, List.getD_cons_zero, cutL, List.drop_zero, List.drop_succ_cons, List.take_succ_cons, List.take_zero, Nat.add_zero, Nat.sub_zero, Nat.reduceLeDiff, Nat.le_refl, List.drop_nil, List.take_nil, Nat.zero_lt_succ, tk3, tk9, dz9, tk22, tk27, tz27, dz27, aPos]
  have hl := hs.1
  have hw : IntKind.i64.wrap ((ls.length : Int) - 1) = (ls.length : Int) - 1 := wrap64 (by omega) (by omega)
  rw [hw]
  refine ⟨fun h => ?_, fun h => ?_⟩
  · have h0 : ls.length = 0 := by simpa using h
    simp [clampP, h0]
  · have h0 : ls.length ≠ 0 := by simpa using h
    have h2 := hs.2 (min (max p1 0) ((ls.length : Int) - 1)).toNat
    refine ⟨⟨by omega, by omega⟩, fun hp => ?_, fun hp => ?_⟩
    · subst hp
      rw [wrap64 (by omega) (by omega)]
      simp [clampP, h0]
    · have : past = true := by simpa using hp
      subst this
      simp [clampP, h0]

def kFirst : C1 := C1.by [.id] (lOne cStr) (fun s => s.length ≤ 140737488355328) (fun s => .int .i64 (firstC s)) (fun _ => [])
theorem ok_First : C1OK Try.prog 49 kFirst := C1OK.by (by kernel_rfl) (fun d h => calls_First d h) (fun _ => rfl) (fun _ => rfl)
theorem ok_RFirst : C1OK Try.prog 19 kFirst := C1OK.by (by kernel_rfl) (fun d h => calls_RFirst d h) (fun _ => rfl) (fun _ => rfl)
theorem ok_SText : C1OK Try.prog 27 kRText := C1OK.by (by kernel_rfl) (fun d h => calls_SText d.1 d.2 h) (fun _ => rfl) (fun _ => rfl)

theorem calls_Equal (a b : Ls) (ha : a.length ≤ 140737488355328) (hb : b.length ≤ 140737488355328) :
    CallsR Try.prog 69 [.sl 1 (a.map .str), .sl 1 (b.map .str)] [] (.bool (a == b)) [] := by
  refine callsR_of (mrg := true) (dyn := []) (CtrOK.nil _) mixed Try.func69 rfl (by simp [Try.ntmps69]) (by kernel_rfl) ?_
  rw [show Try.f69.results.toList = [.tmp 4] from by kernel_rfl]
  simp (maxSteps := 4000000) only [↓wpA_H, ↓wpH_skip, ↓wpH_ret, ↓wpH_seq, ↓wpH_cond, ↓wpH_block, ↓wpH_loop, ↓wpH_region, iselH_if, bselH_false, runH_nil, runH_cons, gw, gselH_plain, cselH_bool, ↓chk, justK, ↓oneK, ↓pureK, envOf, ↓thenA_normal, ↓thenA_ret, ↓stepEv, opnd, Pg.look, binK, intOp, Bool.false_eq_true, implies_true, true_and, and_true, valV, heapV, footV, binV, intV, ofV, ofLeaf, retA, resK, tupA, subA, subQ, ptrsE, frzO, subF, subG, pickOf, frzE, frzC, frz0, frzH, Pg.freeze, List.foldl_nil, subOs, subEv, subV_succ, subM, slen, Option.getD_some, reduceCtorEq, Nat.reduceEqDiff, List.append_nil, List.length_nil, Nat.zero_add, ite_true, ite_false, Option.some.injEq, AV.int.injEq, and_self, exists_eq_left', pickOK_nil, List.length_map, List.contains_nil, tk22]
  refine ⟨fun h => ?_, fun h => ?_⟩
  · symm
    rw [beq_eq_false_iff_ne]
    intro e
    subst e
    simp at h
  have hlen : a.length = b.length := by
    simp at h
    omega
  refine loopH_intro (α := Nat) (fun i => ([(0, .sl 1 (a.map .str)), (1, .sl 1 (b.map .str)), (4, .bool false), (12, .int .i64 a.length), (13, .int .i64 i)], [])) (fun i => i ≤ a.length ∧ a.take i = b.take i) (fun i => a.length - i) 0 ?_ ?_ ?_
  · simp
  · simp (maxSteps := 4000000) only [Pg.look, subA, subQ, ptrsE, frzO, subF, subG, pickOf, frzE, frzC, frz0, frzH, Pg.freeze, List.foldl_nil, subOs, subEv, subV_succ, subM, reduceCtorEq, Nat.reduceEqDiff, List.append_nil, ite_true, ite_false, and_self, pickOK_nil, Int.cast_ofNat_Int]
    all_goals simp
  · intro i hi
    simp (maxSteps := 4000000) only [↓wpA_H, ↓wpH_skip, ↓wpH_ret, ↓wpH_exit, ↓wpH_seq, ↓wpH_cond, ↓wpH_block, ↓wpH_region, iselH_if, bselH_false, runH_nil, runH_cons, gw, gselH_plain, cselH_bool, ↓chk, justK, noW, ↓oneK, ↓pureK, ↓heapK, ↓thenA_normal, ↓thenA_ret, ↓thenA_exit, ↓blockA_normal, ↓blockA_ret, ↓blockA_exit, ↓stepEv, opnd, Pg.look, binK, intOp, strOp, Bool.false_eq_true, implies_true, true_and, and_true, valV, heapV, footV, binV, intV, strV, ofV, ofLeaf, retA, resK, tupA, subA, subQ, ptrsE, frzO, subF, subG, pickOf, frzE, frzC, frz0, frzH, Pg.freeze, List.foldl_nil, subOs, subEv, subV_succ, subM, ldCells, AV.cells, TK.cells, List.getElem?_cons_zero, Option.getD_some, reduceCtorEq, Nat.reduceEqDiff, List.append_nil, List.length_nil, ite_true, ite_false, Option.some.injEq, decide_eq_true_eq, decide_eq_false_iff_not, Int.not_lt, and_self, Bool.not_eq_true', exists_eq_left', pickOK_nil, List.length_map, List.contains_nil, getD_str, Int.toNat_natCast, tk9, dz9, tk22]
    refine ⟨fun h1 => ⟨⟨by omega, by omega⟩, ⟨by omega, by omega⟩, fun h2 => ?_, fun h2 => ⟨i + 1, ⟨by omega, take_succ_eq hi.2 (by omega) (by omega) (by simpa using h2)⟩, by omega, by rw [wrap64 (by omega) (by omega)]; omega⟩⟩, fun h1 => ?_⟩
    · symm
      rw [beq_eq_false_iff_ne]
      intro e
      subst e
      simp at h2
    · symm
      rw [beq_iff_eq]
      have : i = a.length := by omega
      subst this
      exact eq_of_takes hlen hi.2
theorem ok_Equal : C1OK Try.prog 69 kStrings :=
  C1OK.by (by kernel_rfl) (fun d h => calls_Equal d.1 d.2 h.1 h.2) (fun _ => rfl) (fun _ => rfl)

theorem calls_CSize (ls : Ls) (hs : few ls) : CallsR Try.prog 53 [.sl 1 (ls.map .str)] [] (.int .i64 (size ls)) [] := by
  refine callsR_of (mrg := true) (dyn := []) (CtrOK.nil _) mixed Try.func53 rfl (by simp [Try.ntmps53]) (by kernel_rfl) ?_
  rw [show Try.f53.results.toList = [.tmp 2] from by kernel_rfl]
  simp (maxSteps := 4000000) only [↓wpA_H, ↓wpH_seq, ↓wpH_block, ↓wpH_loop, ↓wpH_region, bselH_false, runH_nil, runH_cons, gw, gselH_plain, ↓chk, justK, ↓oneK, ↓pureK, envOf, ↓thenA_normal, ↓stepEv, opnd, Pg.look, Bool.false_eq_true, implies_true, true_and, and_true, valV, heapV, footV, ofV, ofLeaf, slen, Option.getD_some, reduceCtorEq, Nat.reduceEqDiff, List.length_nil, ite_true, ite_false, Option.some.injEq, AV.int.injEq, and_self, exists_eq_left', List.length_map, List.contains_nil, tk22]
  have hl := hs.1
  have hz : ∀ i : Nat, i ≤ ls.length → 0 ≤ size (ls.take i) ∧ size (ls.take i) ≤ 1099512676352 := fun i hi => by
    have := size_le ls 1048576 hs.2 i hi
    have h2 : (i : Int) * (((1048576 : Nat) : Int) + 1) ≤ 1048576 * 1048577 := by
      refine Int.mul_le_mul (by omega) (by omega) (by omega) (by omega)
    omega
  refine loopH_intro (α := Nat) (fun i => ([(2, .int .i64 0), (3, .int .i64 (size (ls.take i))), (6, .sl 1 (ls.map .str)), (7, .int .i64 ls.length), (8, .int .i64 i)], [])) (fun i => i ≤ ls.length) (fun i => ls.length - i) 0 ?_ ?_ ?_
  · simp
  · simp (maxSteps := 4000000) only [Pg.look, true_and, and_true, subA, subQ, ptrsE, frzO, subF, subG, pickOf, frzE, frzC, frz0, frzH, Pg.freeze, List.foldl_nil, subOs, subEv, subV_succ, subM, reduceCtorEq, Nat.reduceEqDiff, List.append_nil, ite_true, ite_false, and_self, pickOK_nil, Int.cast_ofNat_Int, List.take_zero]
    all_goals simp [size]
  · intro i hi
    simp (maxSteps := 4000000) only [↓wpA_H, ↓wpH_skip, ↓wpH_ret, ↓wpH_exit, ↓wpH_seq, ↓wpH_cond, ↓wpH_block, ↓wpH_region, iselH_if, bselH_false, runH_nil, runH_cons, gw, gselH_plain, cselH_bool, ↓chk, justK, noW, ↓oneK, ↓pureK, ↓heapK, ↓thenA_normal, ↓thenA_exit, ↓blockA_normal, ↓blockA_exit, ↓stepEv, opnd, Pg.look, binK, intOp, Bool.false_eq_true, implies_true, true_and, and_true, valV, heapV, footV, binV, intV, ofV, ofLeaf, retA, resK, tupA, subA, subQ, ptrsE, frzO, subF, subG, pickOf, frzE, frzC, frz0, frzH, Pg.freeze, List.foldl_nil, subOs, subEv, subV_succ, subM, ldCells, AV.cells, TK.cells, List.getElem?_cons_zero, Option.getD_some, Nat.reduceEqDiff, List.append_nil, List.length_nil, ite_true, ite_false, Option.some.injEq, decide_eq_true_eq, decide_eq_false_iff_not, Int.not_lt, and_self, exists_eq_left', pickOK_nil, List.length_map, List.contains_nil, getD_str, Int.toNat_natCast, tk9, dz9, tk22]
    have h1 := hz i hi
    refine ⟨fun h => ⟨⟨by omega, by omega⟩, i + 1, by omega, by omega, ?_⟩, fun h => ?_⟩
    · have h2 := hs.2 i
      rw [size_take ls i (by omega), wrap64 (n := ((ls.getD i []).length : Int) + 1) (by omega) (by omega), wrap64 (by omega) (by omega), wrap64 (by omega) (by omega)]
      simp
    · have : i = ls.length := by omega
      subst this
      rw [List.take_length]
end Go.Pg
