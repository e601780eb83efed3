/- What is left of any keys; typing it makes what typing all made. -/
import Derived.Test.YtkjfcpdancjhmaaPgFs16
namespace Go.Pg
open Go Go.Proofs

theorem net_len (ks : List UInt8) : (net ks).length ≤ ks.length := by
  have : ∀ (ks out : List UInt8), (ks.foldl netStep out).length ≤ out.length + ks.length := by
    intro ks
    induction ks with
    | nil => intro out; simp
    | cons k ks ih =>
      intro out
      have h1 := ih (netStep out k)
      have h2 := netStep_len out k
      simp only [List.foldl_cons, List.length_cons]
      omega
  have h := this ks []
  show (ks.foldl netStep []).length ≤ _
  simpa using h

theorem typedL_fits {n b : Nat} {ls : Ls} (h : fits n b ls) (p f : Int × Int) (ks : List UInt8) : fits (n + 2 * ks.length) (b + ks.length) (typedL ls p f ks).1 := by
  induction ks generalizing n b ls p with
  | nil => exact h
  | cons k ks ih =>
    rw [typedL]
    split
    · have hf := typ_fits h p f 1 k
      have := ih (applyL1_fits h hf.2 (by omega)) (typ ls p f 1 k).2.1
      exact fits_mono this (by simp only [List.length_cons]; omega) (by simp only [List.length_cons]; omega)
    · exact ⟨by simp, by simp⟩

set_option maxRecDepth 20000 in
set_option maxHeartbeats 4000000 in
theorem calls_InsertNets (ls : Ls) (a b : Int) (x : List UInt8) (hs : ∀ i, (ls.getD i []).length ≤ 140737488355328) (hx : x.length ≤ 140737488351232) (ha : 0 ≤ a ∧ a < 65536) (hb : 0 ≤ b ∧ b < 65536) :
    CallsR Try.prog 4 [.sl 1 (ls.map .str), .int .u16 a, .int .u16 b, .sl 1 (ofBytes x)] [] (.bool true) [] := by
  refine callsR_of (mrg := true) (dyn := []) (CtrOK.cons ok_known (CtrOK.cons ok_Text (CtrOK.cons ok_SPlace (CtrOK.cons ok_typed (CtrOK.cons ok_Net (CtrOK.cons ok_RNet (CtrOK.cons ok_Strings (CtrOK.nil _)))))))) mixed Try.func4 rfl (by simp [Try.ntmps4]) (by kernel_rfl) ?_
  rw [show Try.f4.results.toList = [.tmp 8] from by kernel_rfl]
  cases ht : text ls with
  | false =>
    simp (maxSteps := 4000000) only [↓wpA_H, ↓wpH_skip, ↓wpH_ret, ↓wpH_seq, ↓wpH_cond, ↓wpH_region, ↓iselH_true, ↓iselH_false, bselH_false, runH_nil, runH_cons, gw, gselH_plain, gselH_if, kselH_1, cselH_bool, gkind, ↓chk, justK, ↓oneK, ↓pureK, envOf, ↓thenA_normal, ↓thenA_ret, ↓stepEv, opnd, Pg.look, binK, intOp, dstOf, Bool.not_false, Bool.not_true, Bool.false_eq_true, Bool.true_eq_false, false_implies, implies_true, imp_self, true_and, and_true, pickC, pickV, unc, gof, mux, mergeK, condsL, valV, heapV, footV, binV, intV, mergeable, look_stripE, ofV, ofLeaf, sameK, retA, resK, tupA, subA, subF, subG, pickOf, frzE, frzC, frz0, frzH, Pg.freeze, List.foldl_nil, subOs, subEv, subV, slen, objAt, ↓callT, callC, callV, callH, normArgs, normA, normC, resL, res, shiftR, shift1, Op.operands, Call.operands, Array.toList_append, List.getElem?_toArray, List.getElem?_cons_succ, List.getElem?_cons_zero, List.getElem?_nil, Option.bind_some, Option.getD_some, reduceCtorEq, Nat.reduceEqDiff, Nat.reduceAdd, List.nil_append, List.append_nil, List.length_nil, List.map_cons, List.map_nil, Nat.zero_add, ite_true, ite_false, Option.some.injEq, AV.int.injEq, Prod.mk.injEq, Bool.and_self, and_self, exists_eq_left', pickOK_nil, List.toList_toArray, length_ofBytes, cSl_dec, lNil_dec, lOne_dec, List.contains_nil, List.range'_zero, decL_str, C1by_ns, C1by_pre, C1by_r, C1by_H, optP_some, optV_some, optH_some, tk31, kKnown, kText, ht]
    exact hs
  | true =>
    have hft := fits_text ht
    obtain ⟨hl0, hl1, hl2⟩ := few_of_text ht
    have hsm : small ls := fits_small hft (by omega) (by omega)
    cases hpp : splace ls a b with | mk p1 p2
    have hnn := net_net x
    have hnt := typedL_net ls (p1, p2) x x.length (Nat.le_refl _)
    rw [List.take_length] at hnt
    simp (maxSteps := 4000000) only [↓wpA_H, ↓wpH_skip, ↓wpH_ret, ↓wpH_seq, ↓wpH_cond, ↓wpH_region, ↓iselH_false, iselH_if, bselH_false, runH_nil, runH_cons, gw, gselH_plain, gselH_if, kselH_0, kselH_1, cselH_bool, gkind, ↓chk, pickO, justK, noW, ↓oneK, ↓pureK, ↓heapK, envOf, ↓thenA_normal, ↓thenA_ret, ↓stepEv, opnd, Pg.look, binK, intOp, strOp, cellsEq, leafEq, dstOf, Bool.and_true, Bool.not_false, Bool.not_true, Bool.false_eq_true, false_implies, implies_true, imp_self, true_and, and_true, forall_const, pickC, pickV, unc, gof, mux, mergeK, condsL, valV, heapV, footV, binV, intV, strV, mergeable, look_stripE, ofV, ofLeaf, sameK, retA, resK, tupA, subA, subF, subG, pickOf, frzE, frzC, frz0, frzH, Pg.freeze, List.foldl_nil, subOs, subEv, subV, slen, srcV, srcL, ldCells, objAt, ↓callT, callC, callV, callH, normArgs, normA, normC, resL, res, shiftR, shift1, AV.cells, TK.cells, AV.definite, AV.leaf, AV.leafy, putCells, lay, Op.operands, Call.operands, Array.toList_append, List.getElem?_toArray, List.getElem?_cons_succ, List.getElem?_cons_zero, List.getElem?_nil, Option.bind_some, Option.getD_some, reduceCtorEq, Nat.reduceEqDiff, Nat.reduceAdd, List.nil_append, List.append_nil, List.cons_append, List.length_cons, List.length_nil, List.map_cons, List.map_nil, List.set_cons_zero, List.set_cons_succ, Nat.zero_add, ite_true, ite_false, Option.some.injEq, AV.int.injEq, AV.str.injEq, Prod.mk.injEq, Bool.if_false_right, Bool.if_true_left, Bool.decide_eq_true, decide_eq_true_eq, decide_eq_false_iff_not, Int.not_lt, List.all_cons, List.all_nil, Bool.and_self, and_self, Bool.not_eq_true', exists_eq_left', pickOK_nil, cInt_dec, List.toList_toArray, length_ofBytes, decL_byte, bytesOf_ofBytes, cSl_dec, cAgg_dec, lNil_dec, lOne_dec, lCons_dec, dec2_some, List.contains_nil, beq_self_eq_true, List.range'_zero, decL_str, C1by_ns, C1by_pre, C1by_r, C1by_H, optP_some, optV_some, optH_some, List.getD_cons_zero, cutL, List.drop_zero, List.drop_succ_cons, List.take_succ_cons, List.take_zero, Nat.sub_zero, Nat.le_refl, List.drop_nil, List.take_nil, Nat.zero_lt_succ, tk5, tk9, tk24, tz24, dz24, eq24, tk31, kKnown, kText, kSPlace, kTyped, kNet, kStrings, aPos, ht, hpp, hnn]
    have hnl := net_len x
    refine ⟨hs, fun h60 => ⟨by omega, by omega, by omega, ⟨hl0, hsm, ha, hb⟩, ⟨fits_mono hft (by omega) (by omega), by omega⟩, ⟨fits_mono hft (by omega) (by omega), by omega⟩, ?_⟩⟩
    have hfx := (typedL_fits hft (p1, p2) (p1, p2) x).1
    cases hok : (typedL ls (p1, p2) (p1, p2) x).snd.snd with
    | false => simp
    | true =>
      rw [hnt hok]
      simp only [hok]
      simp
      omega
end Go.Pg
