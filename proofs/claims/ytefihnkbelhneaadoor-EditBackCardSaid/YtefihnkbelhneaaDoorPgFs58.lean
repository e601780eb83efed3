/- What was shifted to the right comes back by the left, and what was cased twice is as it was. -/
import Derived.Test.YtefihnkbelhneaaDoorPgFs57
import Derived.Test.YtefihnkbelhneaaDoorPgFs51
namespace Go.Pg
open Go Go.Proofs

def kCase : C1 := C1.by [.sl 1 [], .id, .id] (lCons cStrs (lCons cRg (lOne cStr))) (fun d => small d.1) (fun d => .tuple [aCh (kase d.1 d.2.1 d.2.2).1, .bool (kase d.1 d.2.1 d.2.2).2]) (fun _ => [])
theorem ok_Case : C1OK Tryd.prog 29 kCase := C1OK.by (by kernel_rfl) (fun d h => calls_Case d.1 d.2.1 d.2.2 h) (fun _ => rfl) (fun _ => rfl)

set_option maxRecDepth 20000 in
set_option maxHeartbeats 4000000 in
theorem calls_EditBack (ls : Ls) (kd a b c d n : Int) (hs : ∀ i, (ls.getD i []).length ≤ 140737488355328) (hkd : 0 ≤ kd ∧ kd < 256) (ha : 0 ≤ a ∧ a < 65536) (hb : 0 ≤ b ∧ b < 65536) (hc : 0 ≤ c ∧ c < 65536) (hd : 0 ≤ d ∧ d < 65536) (hn : 0 ≤ n ∧ n < 256) :
    CallsR Tryd.prog 8 [.sl 1 (ls.map .str), .int .u8 kd, .int .u16 a, .int .u16 b, .int .u16 c, .int .u16 d, .int .u8 n] [] (.bool true) [] := by
  refine callsR_of (mrg := true) (dyn := []) (CtrOK.cons ok_eknown (CtrOK.cons ok_Text (CtrOK.cons ok_SRange (CtrOK.cons ok_Shift (CtrOK.cons ok_Apply (CtrOK.cons ok_Strings (CtrOK.cons ok_Case (CtrOK.nil _)))))))) mixed Tryd.func8 rfl (by simp [Tryd.ntmps8]) (by kernel_rfl) ?_
  rw [show Tryd.f8.results.toList = [.tmp 14] from by kernel_rfl]
  cases ht : Pg.text ls with
  | false =>
    simp (maxSteps := 4000000) only [↓wpA_H, ↓wpH_skip, ↓wpH_ret, ↓wpH_seq, ↓wpH_cond, ↓wpH_region, ↓iselH_true, ↓iselH_false, bselH_false, runH_nil, runH_cons, gw, gselH_plain, cselH_bool, ↓chk, justK, ↓oneK, ↓pureK, envOf, ↓thenA_normal, ↓thenA_ret, ↓stepEv, opnd, Pg.look, Bool.not_false, Bool.not_true, Bool.false_eq_true, false_implies, implies_true, imp_self, true_and, and_true, valV, heapV, footV, ofV, ofLeaf, retA, resK, tupA, subA, subQ, ptrsE, frzO, subF, subG, pickOf, frzE, frzC, frz0, frzH, Pg.freeze, List.foldl_nil, subOs, subEv, subV_succ, subM, ↓callT, callC, callV, callH, normArgs, normA, normC, resL, res8_eq, res_succ, resM, shiftR, shift1, reduceCtorEq, Nat.reduceEqDiff, Nat.reduceAdd, List.nil_append, List.append_nil, List.length_nil, List.map_cons, List.map_nil, Nat.zero_add, ite_true, ite_false, Prod.mk.injEq, and_self, pickOK_nil, cSl_dec, lNil_dec, lOne_dec, List.contains_nil, List.range'_zero, decL_str, C1by_ns, C1by_pre, C1by_r, C1by_H, optP_some, optV_some, optH_some, kEKnown, kText, ht]
    exact hs
  | true =>
    have hft := fits_text ht
    obtain ⟨hl0, hl1, hl2⟩ := few_of_text ht
    have hsm : small ls := fits_small hft (by omega) (by omega)
    have hfw : few ls := ⟨by omega, fun i => by have := hl2 i; omega⟩
    have hv := srange_valid ls kd a b c d hl0 hc.1 hd.1
    generalize hr : srange ls kd a b c d = r at hv
    obtain ⟨k, f1, f2, t1, t2⟩ := r
    obtain ⟨v1, v2, v3⟩ := valid_line hv
    simp only at v1 v2 v3
    have hm : n.tmod 3 = n % 3 := Int.tmod_eq_emod_of_nonneg hn.1
    have w1 : IntKind.i64.wrap (n.tmod 3) = n.tmod 3 := wrap64 (by omega) (by omega)
    have w2 : IntKind.i64.wrap (n.tmod 3 + 1) = n.tmod 3 + 1 := wrap64 (by omega) (by omega)
    obtain ⟨O, N, now, M, e1, e2, e3, e4, e5, e6⟩ := shift_back ls f1 t1 (n.tmod 3 + 1) hft v1 v2 v3 (by omega) (by omega)
    obtain ⟨O2, N2, now2, M2, g1, g2, g3, g4, g5, g6⟩ := case_back ls (k, f1, f2, t1, t2) hft hv
    simp only at g1 g2 g3
    simp (maxSteps := 4000000) only [↓wpA_H, ↓wpH_skip, ↓wpH_ret, ↓wpH_seq, ↓wpH_cond, ↓wpH_region, ↓iselH_false, bselH_false, runH_nil, runH_cons, gw, gselH_plain, gselH_if, kselH_1, cselH_bool, gkind, ↓chk, justK, noW, ↓oneK, ↓pureK, ↓heapK, envOf, ↓thenA_normal, ↓stepEv, opnd, Pg.look, binK, intOp, dstOf, Bool.not_false, Bool.not_true, Bool.false_eq_true, Bool.true_eq_false, false_implies, implies_true, true_and, and_true, forall_const, pickC, pickV, unc, gof, mux, mergeK, condsL, valV, heapV, footV, binV, intV, mergeable, look_stripE, ofV, ofLeaf, sameK, retA, resK, tupA, subA, subQ, ptrsE, frzO, subF, subG, pickOf, frzE, frzC, frz0, frzH, Pg.freeze, List.foldl_nil, List.foldl_cons, subOs, subEv, subV_succ, subM, ldCells, objAt, ↓callT, callC, callV, callH, normArgs, normA, normC, normL, normE, resL, res8_eq, res_succ, resM, shiftR, shift1, AV.cells, TK.cells, AV.definite, AV.leaf, AV.leafy, AV.pureLeaf, AV.pureB, putCells, lay, frzAt, Op.operands, Call.operands, Array.toList_append, List.getElem?_toArray, List.getElem?_cons_succ, List.getElem?_cons_zero, Option.bind_some, Option.getD_some, reduceCtorEq, Nat.reduceEqDiff, Nat.reduceAdd, List.nil_append, List.append_nil, List.cons_append, List.length_cons, List.length_nil, List.map_cons, List.map_nil, List.set_cons_zero, List.set_cons_succ, Nat.zero_add, ite_true, ite_false, Option.some.injEq, Option.isSome_some, Prod.mk.injEq, ne_eq, not_false_eq_true, List.all_cons, List.all_nil, Bool.and_self, and_self, exists_eq_left', pickOK_nil, cInt_dec, cBool_dec, List.toList_toArray, rg1, cStr_dec, cSl_dec, cAgg_dec, lNil_dec, lOne_dec, lCons_dec, dec2_some, List.contains_nil, beq_self_eq_true, decL_nil, decL_cons, consO_some, List.range'_zero, Nat.reducePow, decL_str, C1by_ns, C1by_pre, C1by_r, C1by_H, optP_some, optV_some, optH_some, List.getD_cons_zero, cutL, List.drop_zero, List.drop_succ_cons, List.take_succ_cons, List.take_zero, Nat.add_zero, Nat.sub_zero, Nat.reduceLeDiff, Nat.le_refl, Nat.one_mul, List.drop_nil, List.take_nil, Nat.zero_lt_succ, tk3, tk5, tk22, tk24, tk31, tz31, dz31, eb31, tk45, tk49, tz49, dz49, kEKnown, kText, kSRange, kShift, kApply, kStrings, kCase, ht, hr, aRg, aCh, w1, w2, e1, e2, e3, g1, g2, g3]
    have m1 : ∀ x : Ch, x ∈ [(f1, O, N)] → x.2.1.length ≤ 1048576 ∧ x.2.2.length ≤ 1048576 := fun x hx => by
      obtain rfl := List.mem_singleton.1 hx
      exact ⟨by show O.length ≤ _; omega, by show N.length ≤ _; omega⟩
    have m2 : ∀ x : Ch, x ∈ [(f1, O2, N2)] → x.2.1.length ≤ 1048576 ∧ x.2.2.length ≤ 1048576 := fun x hx => by
      obtain rfl := List.mem_singleton.1 hx
      exact ⟨by show O2.length ≤ _; omega, by show N2.length ≤ _; omega⟩
    exact ⟨hs, ⟨hl0, hfw, ha, hb, hc, hd, hkd⟩, by decide, hsm, ⟨by omega, m1⟩, by decide, fits_small e4 (by omega) (by omega), by omega, hsm, ⟨by omega, m2⟩, fits_small g4 (by omega) (by omega), by omega⟩
end Go.Pg
