/- The file of registers: set by a letter. -/
import Derived.Test.YtohpkjpipihdoaaPgFr3
namespace Go.Pg
open Go Go.Proofs

def stockR (l : Rgs) : Prop := ∀ k v, look1 k l = some v → lsz v.2 ≤ 4096
theorem stock_fit {l : Rgs} (h : stockR l) {k : UInt8} {v : RgV} (hk : look1 k l = some v) : fitR v.2 := by
  have h1 := h k v hk
  have h2 := lsz_len v.2
  exact ⟨by omega, by omega⟩
theorem joinR_lsz (a b : RgV) : lsz (joinR a b).2 ≤ lsz a.2 + lsz b.2 ∧ (joinR a b).2.length ≤ a.2.length + b.2.length := by
  unfold joinR
  split
  · show lsz (a.2 ++ b.2) ≤ _ ∧ (a.2 ++ b.2).length ≤ _
    rw [lsz_app, List.length_append]; omega
  · split
    · show lsz (a.2 ++ b.2) ≤ _ ∧ (a.2 ++ b.2).length ≤ _
      rw [lsz_app, List.length_append]; omega
    · next h =>
      simp only [Bool.or_eq_true, beq_iff_eq, not_or] at h
      show lsz (a.2.take (a.2.length - 1) ++ ((a.2.getD (a.2.length - 1) [] ++ b.2.getD 0 []) :: b.2.drop 1)) ≤ _ ∧ (a.2.take (a.2.length - 1) ++ ((a.2.getD (a.2.length - 1) [] ++ b.2.getD 0 []) :: b.2.drop 1)).length ≤ _
      have h1 := lsz_take a.2 (a.2.length - 1) (by omega)
      rw [show a.2.length - 1 + 1 = a.2.length by omega, List.take_length] at h1
      have h2 : lsz b.2 = ((b.2.getD 0 []).length : Int) + 1 + lsz (b.2.drop 1) := by
        cases hb : b.2 with
        | nil => rw [hb] at h; simp at h
        | cons x r => simp [lsz]
      rw [lsz_app, lsz_cons, List.length_append, List.length_append, List.length_cons, List.length_take, List.length_drop]
      refine ⟨by omega, by omega⟩
theorem joinR_fit {a b : RgV} (ha : lsz a.2 ≤ 4096) (hb : b.2.length ≤ 100000 ∧ lsz b.2 ≤ 576460752303423488) : fitR (joinR a b).2 := by
  have h := joinR_lsz a b
  have := lsz_len a.2
  exact ⟨by omega, by omega⟩

/-- What a letter's register is to be. -/
def namedR (l : Rgs) (b : UInt8) (r : RgV) : UInt8 × RgV × Bool :=
  if isLow b = true then (b, r, true)
  else if isUp b = true then (b + 32, (match look1 (b + 32) l with
    | some w => joinR w r
    | none => r), true)
  else (0, (0, []), false)
abbrev okArg (r : RgV) : Prop := r.2.length ≤ 100000 ∧ lsz r.2 ≤ 576460752303423488
theorem okArg_fit {r : RgV} (h : okArg r) : fitR r.2 := ⟨by have := h.1; omega, by have := h.2; omega⟩
theorem namedR_fit {l : Rgs} (hl : stockR l) (b : UInt8) {r : RgV} (hr : okArg r) : fitR (namedR l b r).2.1.2 := by
  unfold namedR
  split
  · exact okArg_fit hr
  · split
    · show fitR (match look1 (b + 32) l with
        | some w => joinR w r
        | none => r).2
      split
      · next w hw => exact joinR_fit (hl _ _ hw) hr
      · exact okArg_fit hr
    · exact ⟨by simp, by simp [lsz]⟩

set_option maxRecDepth 20000 in
set_option maxHeartbeats 4000000 in
theorem calls_named (l : Rgs) (b : UInt8) (r : RgV) (hl : stockR l) (hr : okArg r) : CallsR Try.prog 57 [.ptr 0 1 1 0 0, .int .u8 b.toNat, aRg r] (rgH l)
    (.tuple [.int .u8 (namedR l b r).1.toNat, aRg (namedR l b r).2.1, .bool (namedR l b r).2.2]) (rgH l) := by
  refine callsR_of (mrg := true) (dyn := []) (CtrOK.cons ok_RgClone (CtrOK.cons ok_RJoin (CtrOK.nil _))) mixed Try.func57 rfl (by simp [Try.ntmps57]) (by kernel_rfl) ?_
  rw [show Try.f57.results.toList = [.tmp 6, .cell 7 52, .tmp 8] from by kernel_rfl]
  have hrl : r.2.length ≤ 4398046511104 := by have := hr.1; omega
  have hrf := okArg_fit hr
  have c1 := low_eq b
  have c2 := up_eq b
  unfold namedR
  cases hlo : isLow b with
  | true =>
    rw [hlo] at c1
    rw [if_pos rfl]
    simp (maxSteps := 4000000) only [↓wpA_H, ↓wpH_ret, ↓wpH_seq, ↓wpH_cond, ↓wpH_block, ↓wpH_region, ↓iselH_true, bselH_false, runH_nil, runH_cons, gw, gselH_plain, gselH_if, kselH_1, cselH_bool, gkind, ↓chk, justK, noW, ↓oneK, ↓pureK, ↓heapK, envOf, ↓thenA_normal, ↓thenA_ret, ↓blockA_ret, ↓stepEv, opnd, Pg.look, binK, intOp, dstOf, Bool.and_true, Bool.false_eq_true, false_implies, implies_true, imp_self, true_and, and_true, pickC, pickV, unc, gof, mux, mergeK, condsL, valV, heapV, footV, binV, intV, alives, aliveO, nxtQ, hdS, pairsA, frzA, closeQ_nil, closeQ_succ, diagQ_zero, diagQ_succ, Nat.reduceAdd, mergeable, look_stripE, ofV, ofLeaf, sameK, retA, resK, tupA, subA, subQ, ptrsE, pairsO, frzO, subF, subG, pickOf, pairsE, pairsC, pairsL, pairs0, frzE, frzC, frzL, frz0, frzH, Pg.freeze, List.foldl_nil, subOs, subO, subEv, subV_succ, subM, subL, ldCells, objAt, ↓callT, callC, callV, callH, normArgs, normA, normC, normL, resL, res8_eq, res_succ, resM, shiftR, shift1, AV.cells, TK.cells, AV.definite, AV.leaf, AV.leafy, AV.pureLeaf, AV.pureB, putCells, lay, Op.operands, List.getElem?_toArray, List.getElem?_cons_succ, List.getElem?_cons_zero, Option.bind_some, Option.getD_some, reduceCtorEq, Nat.reduceEqDiff, Nat.reduceAdd, Nat.reduceLT, List.nil_append, List.append_nil, List.cons_append, List.length_cons, List.length_nil, List.map_cons, List.map_nil, List.set_cons_zero, List.set_cons_succ, Nat.zero_add, ite_true, ite_false, Option.some.injEq, Prod.mk.injEq, Bool.if_false_right, decide_eq_true_eq, decide_eq_false_iff_not, Int.not_le, List.all_cons, List.all_nil, Bool.and_self, and_self, exists_eq_left', cInt_dec, List.toList_toArray, cSl_dec, cAgg_dec, lOne_dec, lCons_dec, dec2_some, List.contains_nil, List.range'_zero, decL_str, C1by_ns, C1by_pre, C1by_r, C1by_H, optP_some, optV_some, optH_some, List.getD_cons_zero, cutL, List.drop_zero, List.drop_succ_cons, List.take_succ_cons, List.take_zero, Nat.sub_zero, Nat.le_refl, List.drop_nil, List.take_nil, Nat.zero_lt_succ, C1by_it, regH_none, isNext, nextF, nextG, selC_false, ↓msel, muC, ↓callP, C1by_mu, mapAt, tk52, tz52, dz52, kRgClone, kRJoin, c1, hrl]
    (repeat' first | exact rfl | apply And.intro | exact subX_eq rfl (pureB_bytes _) | exact subX_eq rfl (pureB_aPs _) | exact subX_eq rfl rfl | decide | omega | apply subX_one)
    all_goals try simp (maxSteps := 4000000) only [subL]
  | false =>
    rw [hlo] at c1
    rw [if_neg (by simp)]
    cases hu : isUp b with
    | true =>
      rw [hu] at c2
      rw [if_pos rfl]
      have hw := up_wrap hu
      cases hk : look1 (b + 32) l with
      | none =>
        simp (maxSteps := 4000000) only [↓wpA_H, ↓wpH_skip, ↓wpH_ret, ↓wpH_seq, ↓wpH_cond, ↓wpH_block, ↓wpH_region, ↓iselH_true, ↓iselH_false, bselH_false, runH_nil, runH_cons, gw, gselH_plain, gselH_if, kselH_1, cselH_bool, gkind, ↓chk, justK, noW, ↓oneK, ↓pureK, ↓heapK, envOf, ↓thenA_normal, ↓thenA_ret, ↓blockA_ret, ↓stepEv, opnd, Pg.look, binK, intOp, dstOf, Bool.and_true, Bool.false_eq_true, false_implies, implies_true, imp_self, true_and, and_true, pickC, pickV, unc, gof, mux, mergeK, condsL, valV, heapV, footV, binV, intV, alives, aliveO, nxtQ, hdS, pairsA, frzA, closeQ_nil, closeQ_succ, diagQ_zero, diagQ_succ, Nat.reduceAdd, mergeable, look_stripE, ofV, ofLeaf, sameK, retA, resK, tupA, subA, subQ, ptrsE, pairsO, frzO, subF, subG, pickOf, pairsE, pairsC, pairsL, pairs0, frzE, frzC, frzL, frz0, frzH, Pg.freeze, List.foldl_nil, subOs, subO, subEv, subV_succ, subM, subL, ldCells, objAt, ↓callT, callC, callV, callH, normArgs, normA, normC, normL, resL, res8_eq, res_succ, resM, shiftR, shift1, AV.cells, TK.cells, AV.definite, AV.leaf, AV.leafy, AV.pureLeaf, AV.pureB, putCells, lay, Op.operands, List.getElem?_toArray, List.getElem?_cons_succ, List.getElem?_cons_zero, Option.bind_some, Option.map_none, Option.getD_some, Option.getD_none, reduceCtorEq, Nat.reduceEqDiff, Nat.reduceAdd, Nat.reduceLT, List.nil_append, List.append_nil, List.cons_append, List.length_cons, List.length_nil, List.map_cons, List.map_nil, List.set_cons_zero, List.set_cons_succ, Nat.zero_add, ite_true, ite_false, Option.some.injEq, Option.isSome_none, Prod.mk.injEq, Bool.if_false_right, decide_eq_true_eq, decide_eq_false_iff_not, Int.not_le, List.all_cons, List.all_nil, Bool.and_self, and_self, exists_eq_left', cInt_dec, List.toList_toArray, cSl_dec, cAgg_dec, lOne_dec, lCons_dec, dec2_some, List.contains_nil, beq_self_eq_true, List.range'_zero, decL_str, C1by_ns, C1by_pre, C1by_r, C1by_H, optP_some, optV_some, optH_some, List.getD_cons_zero, cutL, List.drop_zero, List.drop_succ_cons, List.take_succ_cons, List.take_zero, Nat.add_zero, Nat.sub_zero, Nat.le_refl, List.drop_nil, List.take_nil, Nat.zero_lt_succ, C1by_it, regH_none, isNext, nextF, nextG, selC_false, ↓msel, muC, ↓callP, C1by_mu, findE_byte, keys_byte, ↓mapK, mapAt, isKeyA, kdT, hasE, lookV, tk52, tz52, dz52, tk90, mt90, tk92, dz92, kRgClone, kRJoin, c1, c2, hw, hk, hrl]
        (repeat' first | exact rfl | apply And.intro | exact subX_eq rfl (pureB_bytes _) | exact subX_eq rfl (pureB_aPs _) | exact subX_eq rfl rfl | decide | omega | apply subX_one)
        all_goals try simp (maxSteps := 4000000) only [subL]
      | some w =>
        have hwf : fitR w.2 := stock_fit hl hk
        simp (maxSteps := 4000000) only [↓wpA_H, ↓wpH_ret, ↓wpH_seq, ↓wpH_cond, ↓wpH_block, ↓wpH_region, ↓iselH_true, ↓iselH_false, bselH_false, runH_nil, runH_cons, gw, gselH_plain, gselH_if, kselH_1, cselH_bool, gkind, ↓chk, justK, noW, ↓oneK, ↓pureK, ↓heapK, envOf, ↓thenA_normal, ↓thenA_ret, ↓blockA_ret, ↓stepEv, opnd, Pg.look, binK, intOp, dstOf, Bool.and_true, Bool.false_eq_true, false_implies, implies_true, imp_self, true_and, and_true, pickC, pickV, unc, gof, mux, mergeK, condsL, valV, heapV, footV, binV, intV, alives, aliveO, nxtQ, hdS, pairsA, frzA, closeQ_nil, closeQ_succ, diagQ_zero, diagQ_succ, Nat.reduceAdd, mergeable, look_stripE, ofV, ofLeaf, sameK, retA, resK, tupA, subA, subQ, ptrsE, pairsO, frzO, subF, subG, pickOf, pairsE, pairsC, pairsL, pairs0, frzE, frzC, frzL, frz0, frzH, Pg.freeze, List.foldl_nil, subOs, subO, subEv, subV_succ, subM, subL, ldCells, objAt, ↓callT, callC, callV, callH, normArgs, normA, normC, normL, resL, res8_eq, res_succ, resM, shiftR, shift1, AV.cells, TK.cells, AV.definite, AV.leaf, AV.leafy, AV.pureLeaf, AV.pureB, putCells, lay, Op.operands, List.getElem?_toArray, List.getElem?_cons_succ, List.getElem?_cons_zero, Option.bind_some, Option.map_some, Option.getD_some, reduceCtorEq, Nat.reduceEqDiff, Nat.reduceAdd, Nat.reduceLT, List.nil_append, List.append_nil, List.cons_append, List.length_cons, List.length_nil, List.map_cons, List.map_nil, List.set_cons_zero, List.set_cons_succ, Nat.zero_add, ite_true, ite_false, Option.some.injEq, Option.isSome_some, Prod.mk.injEq, Bool.if_false_right, decide_eq_true_eq, decide_eq_false_iff_not, Int.not_le, List.all_cons, List.all_nil, Bool.and_self, and_self, exists_eq_left', cInt_dec, List.toList_toArray, cSl_dec, cAgg_dec, lOne_dec, lCons_dec, dec2_some, List.contains_nil, beq_self_eq_true, List.range'_zero, decL_str, C1by_ns, C1by_pre, C1by_r, C1by_H, optP_some, optV_some, optH_some, List.getD_cons_zero, cutL, List.drop_zero, List.drop_succ_cons, List.take_succ_cons, List.take_zero, Nat.add_zero, Nat.sub_zero, Nat.le_refl, List.drop_nil, List.take_nil, Nat.zero_lt_succ, C1by_it, regH_none, isNext, nextF, nextG, selC_false, ↓msel, muC, ↓callP, C1by_mu, findE_byte, keys_byte, ↓mapK, mapAt, isKeyA, kdT, hasE, lookV, tk52, tz52, dz52, tk90, mt90, tk92, dz92, kRgClone, kRJoin, c1, c2, hw, hk, cRgV_enc]
        refine ⟨⟨hwf, hrf⟩, ?_⟩
        (repeat' first | exact rfl | apply And.intro | exact subX_eq rfl (pureB_bytes _) | exact subX_eq rfl (pureB_aPs _) | exact subX_eq rfl rfl | decide | omega | apply subX_one)
        all_goals try simp (maxSteps := 4000000) only [subL]
    | false =>
      rw [hu] at c2
      rw [if_neg (by simp)]
      simp (maxSteps := 4000000) only [↓wpA_H, ↓wpH_skip, ↓wpH_ret, ↓wpH_seq, ↓wpH_cond, ↓wpH_block, ↓wpH_region, ↓iselH_false, bselH_false, runH_nil, runH_cons, gw, gselH_plain, gselH_if, kselH_1, cselH_bool, gkind, ↓chk, justK, noW, ↓oneK, ↓pureK, ↓heapK, envOf, ↓thenA_normal, ↓blockA_normal, ↓stepEv, opnd, Pg.look, binK, intOp, dstOf, Bool.and_true, Bool.false_eq_true, implies_true, imp_self, true_and, and_true, pickC, pickV, unc, gof, mux, mergeK, condsL, valV, heapV, footV, binV, intV, alives, aliveO, nxtQ, hdS, pairsA, frzA, closeQ_nil, closeQ_succ, diagQ_zero, diagQ_succ, Nat.reduceAdd, mergeable, look_stripE, ofV, ofLeaf, sameK, retA, resK, tupA, subA, subQ, ptrsE, pairsO, frzO, subF, subG, pickOf, pairsE, pairsC, pairsL, pairs0, frzE, frzC, frzL, frz0, frzH, Pg.freeze, List.foldl_nil, subOs, subO, subEv, subV_succ, subM, subL, ldCells, objAt, res_succ, resM, AV.cells, TK.cells, AV.definite, AV.leaf, AV.leafy, AV.pureLeaf, AV.pureB, putCells, lay, buildL, Op.operands, List.getElem?_toArray, List.getElem?_cons_succ, List.getElem?_cons_zero, Option.bind_some, Option.getD_some, reduceCtorEq, Nat.reduceEqDiff, Nat.reduceAdd, Nat.reduceLT, List.nil_append, List.append_nil, List.cons_append, List.length_cons, List.length_nil, List.map_nil, List.set_cons_zero, List.set_cons_succ, Nat.zero_add, ite_true, ite_false, Option.some.injEq, Option.isSome_some, AV.agg.injEq, Bool.if_false_right, decide_eq_true_eq, decide_eq_false_iff_not, Int.not_le, List.all_cons, List.all_nil, Bool.and_self, and_self, exists_eq_left', List.toList_toArray, List.contains_nil, List.getD_cons_zero, cutL, List.drop_zero, List.drop_succ_cons, List.take_succ_cons, List.take_zero, Nat.sub_zero, Nat.le_refl, List.drop_nil, List.take_nil, Nat.zero_lt_succ, regH_none, isNext, nextF, nextG, selC_false, mapAt, tk52, tz52, dz52, kRgClone, kRJoin, c1, c2]
      (repeat' first | exact rfl | apply And.intro | exact subX_eq rfl (pureB_bytes _) | exact subX_eq rfl (pureB_aPs _) | exact subX_eq rfl rfl | decide | omega | apply subX_one)
      all_goals try simp (maxSteps := 4000000) only [subL]
def kNamed : C1 := C1.mby (hCons hFile (hCons (hP .id cByte) (hCons (hP (.ag [none, some 1]) cRgV) hNil))) (fun d => stockR d.1.1 ∧ okArg d.2.2.1)
  (fun d => .tuple [.int .u8 (namedR d.1.1 d.2.1 d.2.2.1).1.toNat, aRg (namedR d.1.1 d.2.1 d.2.2.1).2.1, .bool (namedR d.1.1 d.2.1 d.2.2.1).2.2]) (fun d => rgH d.1.1)
theorem ok_named : C1OK Try.prog 57 kNamed := C1OK.mby (by kernel_rfl) (fun d h => calls_named d.1.1 d.2.1 d.2.2.1 h.1 h.2) (fun _ _ => Nat.le_refl _)

/-- A register of a letter is set. -/
def putR (l : Rgs) (b : UInt8) (r : RgV) : Int × Rgs :=
  if (namedR l b r).2.2 = true then (if lsz (namedR l b r).2.1.2 > 4096 then (21, l) else (0, upd (namedR l b r).1 (namedR l b r).2.1 l)) else (23, l)
theorem putR_stock {l : Rgs} (hl : stockR l) (b : UInt8) (r : RgV) : stockR (putR l b r).2 := by
  unfold putR
  split
  · split
    · exact hl
    · next h =>
      intro k v hk
      have hk : look1 k (upd (namedR l b r).1 (namedR l b r).2.1 l) = some v := hk
      rw [look1_upd] at hk
      split at hk
      · cases hk; omega
      · exact hl k v hk
  · exact hl
set_option maxRecDepth 20000 in
set_option maxHeartbeats 4000000 in
theorem calls_RPut (l : Rgs) (b : UInt8) (r : RgV) (hl : stockR l) (hr : okArg r) : CallsR Try.prog 39 [.ptr 0 1 1 0 0, .int .u8 b.toNat, aRg r] (rgH l)
    (.int .i64 (putR l b r).1) (rgH (putR l b r).2) := by
  refine callsR_of (mrg := true) (dyn := []) (CtrOK.cons ok_named (CtrOK.cons ok_RgSize (CtrOK.nil _))) mixed Try.func39 rfl (by simp [Try.ntmps39]) (by kernel_rfl) ?_
  rw [show Try.f39.results.toList = [.tmp 6] from by kernel_rfl]
  have hf := namedR_fit hl b hr
  unfold putR
  obtain ⟨n, hn⟩ : ∃ n, n = namedR l b r := ⟨_, rfl⟩
  rw [← hn] at hf ⊢
  obtain ⟨nb, ⟨nk, nl⟩, nok⟩ := n
  have hf : fitR nl := hf
  cases nok with
  | true =>
    rw [if_pos rfl]
    by_cases hz : lsz nl > 4096
    · have cz : decide (lsz nl > 4096) = true := decide_eq_true hz
      rw [if_pos hz]
      simp (maxSteps := 4000000) only [↓wpA_H, ↓wpH_ret, ↓wpH_seq, ↓wpH_cond, ↓wpH_block, ↓wpH_region, ↓iselH_true, ↓iselH_false, bselH_false, runH_nil, runH_cons, gw, gselH_plain, cselH_bool, ↓chk, justK, noW, ↓oneK, ↓pureK, ↓heapK, envOf, ↓thenA_normal, ↓thenA_ret, ↓blockA_ret, ↓stepEv, opnd, Pg.look, binK, intOp, Bool.and_true, Bool.not_false, Bool.not_true, Bool.false_eq_true, false_implies, implies_true, true_and, and_true, valV, heapV, footV, binV, intV, alives, aliveO, nxtQ, hdS, pairsA, frzA, closeQ_nil, closeQ_succ, diagQ_zero, diagQ_succ, Nat.reduceAdd, ofV, ofLeaf, retA, resK, tupA, subA, subQ, ptrsE, pairsO, frzO, subF, subG, pickOf, assocN, pairsE, pairsC, pairsL, pairs0, frzE, frzC, frzL, frz0, frzH, Pg.freeze, List.foldl_nil, subOs, subO, subEv, subV_succ, subM, ldCells, objAt, ↓callT, callC, callV, callH, normArgs, normA, normC, normL, resL, res8_eq, res_succ, resM, shiftR, shift1, AV.cells, TK.cells, AV.definite, AV.leaf, AV.leafy, AV.pureLeaf, AV.pureB, putCells, lay, List.getElem?_cons_succ, List.getElem?_cons_zero, Option.getD_some, reduceCtorEq, Nat.reduceEqDiff, Nat.reduceAdd, Nat.reduceLT, Nat.reduceSub, List.nil_append, List.append_nil, List.cons_append, List.length_cons, List.length_nil, List.map_cons, List.map_nil, List.set_cons_zero, List.set_cons_succ, Nat.zero_add, ite_true, ite_false, Option.some.injEq, Prod.mk.injEq, List.all_cons, List.all_nil, Bool.and_self, and_self, exists_eq_left', cInt_dec, cByte_dec, cSl_dec, cAgg_dec, lOne_dec, lCons_dec, dec2_some, List.contains_cons, List.contains_nil, Nat.reduceBEq, Bool.or_self, List.range'_zero, decL_str, C1by_ns, C1by_pre, C1by_r, C1by_H, optP_some, optV_some, optH_some, List.getD_cons_zero, List.getD_cons_succ, cutL, List.drop_zero, List.drop_succ_cons, List.take_succ_cons, List.take_zero, Nat.sub_zero, Nat.sub_self, Nat.le_refl, List.drop_nil, List.take_nil, Nat.zero_lt_succ, C1by_it, regH_none, isNext, nextF, nextG, selC_false, ↓msel, muC, ↓callP, ↓callU, ↓callUV, ↓callUH, ↓callUF, C1by_mu, C1mby_mu, runM_eq, mkM_some, hNil_dec, hCons_dec, app3_some, hP_dec, hP1_some, hP2_some, hO1_some, hM1_mp, hMp_dec, hB1_some, hB2_arr, hBox_dec, hAgg_dec, pickF, nodupB, somes, fresh, gids, gid, putO, ren, renL, renO, tk52, tz52, dz52, kNamed, kRgSize, hFile, decE_rg, rgH, ← hn, cz]
      refine ⟨⟨hl, hr⟩, hf, ?_⟩
      (repeat' first | exact rfl | apply And.intro | exact subX_eq rfl (pureB_bytes _) | exact subX_eq rfl (pureB_aPs _) | exact subX_eq rfl rfl | decide | omega | apply subX_one)
      all_goals try simp (maxSteps := 4000000) only [subL]
    · have cz : decide (lsz nl > 4096) = false := decide_eq_false hz
      rw [if_neg hz]
      simp (maxSteps := 4000000) only [↓wpA_H, ↓wpH_skip, ↓wpH_ret, ↓wpH_seq, ↓wpH_cond, ↓wpH_block, ↓wpH_region, ↓iselH_false, bselH_false, runH_nil, runH_cons, gw, gselH_plain, cselH_bool, ↓chk, justK, noW, ↓oneK, ↓pureK, ↓heapK, envOf, ↓thenA_normal, ↓blockA_normal, ↓stepEv, opnd, Pg.look, binK, intOp, Bool.and_true, Bool.not_false, Bool.not_true, Bool.false_eq_true, false_implies, implies_true, true_and, and_true, valV, heapV, footV, binV, intV, alives, aliveO, nxtQ, hdS, pairsA, frzA, closeQ_nil, closeQ_succ, diagQ_zero, diagQ_succ, Nat.reduceAdd, ofV, ofLeaf, retA, resK, tupA, subA, subQ, ptrsE, pairsO, frzO, subF, subG, pickOf, assocN, pairsE, pairsC, pairsL, pairs0, frzE, frzC, frzL, frz0, frzH, Pg.freeze, List.foldl_nil, subOs, subO, subEv, subV_succ, subM, ldCells, objAt, ↓callT, callC, callV, callH, normArgs, normA, normC, normL, resL, res8_eq, res_succ, resM, shiftR, shift1, AV.cells, TK.cells, AV.definite, AV.leaf, AV.leafy, AV.pureLeaf, AV.pureB, putCells, lay, List.getElem?_cons_succ, List.getElem?_cons_zero, Option.getD_some, reduceCtorEq, Nat.reduceEqDiff, Nat.reduceAdd, Nat.reduceLT, Nat.reduceSub, List.nil_append, List.append_nil, List.cons_append, List.length_cons, List.length_nil, List.map_cons, List.map_nil, List.set_cons_zero, List.set_cons_succ, Nat.zero_add, ite_true, ite_false, Option.some.injEq, Option.isSome_some, Option.isSome_none, Prod.mk.injEq, List.all_cons, List.all_nil, Bool.and_self, and_self, exists_eq_left', cInt_dec, cByte_dec, cSl_dec, cAgg_dec, lOne_dec, lCons_dec, dec2_some, List.contains_cons, List.contains_nil, Nat.reduceBEq, Bool.or_self, beq_self_eq_true, List.range'_zero, decL_str, C1by_ns, C1by_pre, C1by_r, C1by_H, optP_some, optV_some, optH_some, List.getD_cons_zero, List.getD_cons_succ, cutL, List.drop_zero, List.drop_succ_cons, List.take_succ_cons, List.take_zero, Nat.add_zero, Nat.sub_zero, Nat.sub_self, Nat.le_refl, List.drop_nil, List.take_nil, Nat.zero_lt_succ, C1by_it, regH_none, isNext, nextF, nextG, selC_true, selC_false, pureC, ↓msel, muC, ↓callP, ↓callU, ↓callUV, ↓callUH, ↓callUF, C1by_mu, C1mby_mu, runM_eq, mkM_some, hNil_dec, hCons_dec, app3_some, hP_dec, hP1_some, hP2_some, hO1_some, hM1_mp, hMp_dec, hB1_some, hB2_arr, hBox_dec, hAgg_dec, keys_byte, pickF, nodupB, somes, fresh, gids, gid, putO, ren, renL, renO, ↓mapK, isKeyA, kdT, tk52, tz52, dz52, tk90, mt90, tk92, dz92, kNamed, kRgSize, hFile, decE_rg, rgH, setE_rg, ← hn, cz]
      refine ⟨⟨hl, hr⟩, hf, ?_⟩
      (repeat' first | exact rfl | apply And.intro | exact subX_eq rfl (pureB_bytes _) | exact subX_eq rfl (pureB_aPs _) | exact subX_eq rfl rfl | decide | omega | apply subX_one)
      all_goals try simp (maxSteps := 4000000) only [subL]
  | false =>
    rw [if_neg (by simp)]
    simp (maxSteps := 4000000) only [↓wpA_H, ↓wpH_ret, ↓wpH_seq, ↓wpH_cond, ↓wpH_block, ↓wpH_region, ↓iselH_true, bselH_false, runH_nil, runH_cons, gw, gselH_plain, cselH_bool, ↓chk, justK, noW, ↓oneK, ↓pureK, ↓heapK, envOf, ↓thenA_normal, ↓thenA_ret, ↓blockA_ret, ↓stepEv, opnd, Pg.look, Bool.and_true, Bool.not_false, Bool.false_eq_true, implies_true, true_and, and_true, valV, heapV, footV, alives, aliveO, nxtQ, hdS, pairsA, frzA, closeQ_nil, closeQ_succ, diagQ_zero, diagQ_succ, Nat.reduceAdd, ofV, ofLeaf, retA, resK, tupA, subA, subQ, ptrsE, pairsO, frzO, subF, subG, pickOf, assocN, pairsE, pairsC, pairsL, pairs0, frzE, frzC, frzL, frz0, frzH, Pg.freeze, List.foldl_nil, subOs, subO, subEv, subV_succ, subM, ldCells, objAt, ↓callT, normA, normC, normL, resL, res8_eq, res_succ, resM, AV.cells, TK.cells, AV.definite, AV.leaf, AV.leafy, AV.pureLeaf, AV.pureB, putCells, lay, List.getElem?_cons_succ, List.getElem?_cons_zero, Option.getD_some, reduceCtorEq, Nat.reduceEqDiff, Nat.reduceAdd, Nat.reduceLT, Nat.reduceSub, List.nil_append, List.append_nil, List.cons_append, List.length_cons, List.length_nil, List.map_cons, List.map_nil, List.set_cons_zero, List.set_cons_succ, Nat.zero_add, ite_true, ite_false, Option.some.injEq, List.all_cons, List.all_nil, Bool.and_self, and_self, exists_eq_left', cInt_dec, cByte_dec, cSl_dec, cAgg_dec, lOne_dec, lCons_dec, dec2_some, List.contains_cons, List.contains_nil, Nat.reduceBEq, Bool.or_self, List.range'_zero, decL_str, List.getD_cons_zero, List.getD_cons_succ, cutL, List.drop_zero, List.drop_succ_cons, List.take_succ_cons, List.take_zero, Nat.sub_zero, Nat.sub_self, Nat.le_refl, List.drop_nil, List.take_nil, Nat.zero_lt_succ, regH_none, isNext, nextF, nextG, selC_false, ↓msel, muC, ↓callU, ↓callUV, ↓callUH, ↓callUF, C1by_mu, C1mby_mu, runM_eq, mkM_some, hNil_dec, hCons_dec, app3_some, hP_dec, hP1_some, hP2_some, hO1_some, hM1_mp, hMp_dec, hB1_some, hB2_arr, hBox_dec, hAgg_dec, pickF, nodupB, somes, fresh, gids, gid, putO, ren, renL, renO, tk52, tz52, dz52, kNamed, kRgSize, hFile, decE_rg, rgH, ← hn]
    refine ⟨⟨hl, hr⟩, ?_⟩
    (repeat' first | exact rfl | apply And.intro | exact subX_eq rfl (pureB_bytes _) | exact subX_eq rfl (pureB_aPs _) | exact subX_eq rfl rfl | decide | omega | apply subX_one)
    all_goals try simp (maxSteps := 4000000) only [subL]
def kRPut : C1 := C1.mby (hCons hFile (hCons (hP .id cByte) (hCons (hP (.ag [none, some 1]) cRgV) hNil))) (fun d => stockR d.1.1 ∧ okArg d.2.2.1)
  (fun d => .int .i64 (putR d.1.1 d.2.1 d.2.2.1).1) (fun d => rgH (putR d.1.1 d.2.1 d.2.2.1).2)
theorem ok_RPut : C1OK Try.prog 39 kRPut := C1OK.mby (by kernel_rfl) (fun d h => calls_RPut d.1.1 d.2.1 d.2.2.1 h.1 h.2) (fun _ _ => Nat.le_refl _)
end Go.Pg
