/- What is left of keys. -/
import Derived.Test.YtkjfcpdancjhmaaPgFs7
namespace Go.Pg
open Go Go.Proofs

def netStep (out : List UInt8) (k : UInt8) : List UInt8 :=
  if (letter k.toNat || k.toNat == (13 : Int) || k.toNat == (10 : Int)) = true then out ++ [k]
  else if ((k.toNat == (8 : Int) || k.toNat == (127 : Int)) && decide (0 < out.length) && letter (out.getD (out.length - 1) 0).toNat) = true then out.take (out.length - 1)
  else out
def net (keys : List UInt8) : List UInt8 := keys.foldl netStep []

theorem netStep_len (out : List UInt8) (k : UInt8) : (netStep out k).length ≤ out.length + 1 := by
  unfold netStep
  split
  · simp
  · split
    · simp; omega
    · omega

theorem drop_getD {α : Type} (l : List α) (i : Nat) (d : α) (h : i < l.length) : l.drop i = l.getD i d :: l.drop (i + 1) := by
  rw [List.drop_eq_getElem_cons h, List.getD_eq_getElem?_getD, List.getElem?_eq_getElem h]; rfl

set_option maxHeartbeats 4000000 in
theorem calls_RNet (ks : List UInt8) (h1 : ks.length ≤ 1099511627776) :
    CallsR Try.prog 22 [.sl 1 (ofBytes ks)] [] (.sl 1 (ofBytes (net ks))) [] := by
  refine callsR_of (mrg := true) (dyn := []) (CtrOK.cons ok_RLetter (CtrOK.nil _)) mixed Try.func22 rfl (by simp [Try.ntmps22]) (by kernel_rfl) ?_
  rw [show Try.f22.results.toList = [.tmp 2] from by kernel_rfl]
  simp (maxSteps := 4000000) only [↓wpA_H, ↓wpH_seq, ↓wpH_block, ↓wpH_loop, ↓wpH_region, bselH_false, runH_nil, runH_cons, gw, gselH_plain, ↓chk, justK, ↓oneK, ↓pureK, envOf, ↓thenA_normal, ↓stepEv, opnd, Bool.false_eq_true, implies_true, true_and, valV, heapV, footV, ofV, ofLeaf, List.length_nil, and_self, List.contains_nil, kLetter]
  refine loopH_intro (α := Nat × List UInt8) (fun x => ([(0, .sl 1 (ofBytes ks)), (2, .nls), (3, .own 0 1 x.2.length), (4, .int .i64 x.1)], [.arr 5 1 (ofBytes x.2)]))
    (fun x => x.1 ≤ ks.length ∧ x.2.length ≤ x.1 ∧ (ks.drop x.1).foldl netStep x.2 = net ks) (fun x => ks.length - x.1) (0, []) ?_ ?_ ?_
  · simp [net]
  · simp (maxSteps := 4000000) only [Pg.look, true_and, and_true, subA, subQ, ptrsE, pairsO, frzO, subF, subG, pickOf, assocN, pairsE, pairsC, pairs0, frzE, frzC, frz0, frzH, Pg.freeze, List.foldl_nil, subOs, subO, subEv, subV, List.getElem?_cons_zero, reduceCtorEq, Nat.reduceEqDiff, List.nil_append, List.append_nil, List.length_nil, ite_true, ite_false, and_self, pickOK_one, Int.cast_ofNat_Int, Nat.lt_irrefl]
    all_goals first | rfl | exact ⟨rfl, rfl⟩
  · intro x hx
    obtain ⟨i, out⟩ := x
    simp only at hx
    have hstep : ∀ h : i < ks.length, (ks.drop (i + 1)).foldl netStep (netStep out (ks.getD i 0)) = net ks := fun h => by
      rw [← hx.2.2, drop_getD ks i 0 h, List.foldl_cons]
    have hnl := netStep_len out (ks.getD i 0)
    simp (maxSteps := 4000000) only [↓wpA_H, ↓wpH_skip, ↓wpH_ret, ↓wpH_exit, ↓wpH_seq, ↓wpH_cond, ↓wpH_block, ↓wpH_region, iselH_if, bselH_false, runH_nil, runH_cons, gw, gselH_plain, gselH_if, kselH_1, cselH_bool, gkind, ↓chk, justK, noW, ↓oneK, ↓pureK, ↓heapK, ↓thenA_normal, ↓thenA_exit, ↓blockA_normal, ↓blockA_exit, ↓stepEv, opnd, Pg.look, binK, intOp, dstOf, Bool.false_eq_true, implies_true, imp_self, true_and, and_true, pickC, pickV, unc, gof, mux, mergeK, condsL, valV, heapV, footV, binV, intV, mergeable, look_stripE, ofV, ofLeaf, sameK, retA, resK, tupA, subA, subQ, ptrsE, pairsO, frzO, subF, subG, pickOf, assocN, pairsE, pairsC, pairs0, frzE, frzC, frz0, frzH, Pg.freeze, List.foldl_nil, List.foldl_cons, subOs, subO, subEv, subV, slen, srcV, srcE, appK, ldCells, objAt, ↓sliceOwn, ↓callT, callC, callV, callH, normArgs, normA, resL, res, shiftR, shift1, AV.cells, TK.cells, AV.definite, AV.leaf, AV.leafy, frzAt, Op.operands, Call.operands, Array.toList_append, List.getElem?_toArray, List.getElem?_cons_succ, List.getElem?_cons_zero, Option.bind_some, Option.getD_some, reduceCtorEq, Nat.reduceEqDiff, List.nil_append, List.append_nil, List.cons_append, List.length_cons, List.length_nil, List.map_cons, List.map_nil, List.set_cons_zero, Nat.zero_add, ite_true, ite_false, Option.some.injEq, Option.isSome_some, AV.int.injEq, AV.sl.injEq, Bool.if_false_right, Bool.if_true_left, Bool.decide_eq_true, decide_eq_true_eq, decide_eq_false_iff_not, Int.not_lt, List.all_cons, List.all_nil, Bool.and_self, and_self, Bool.not_eq_true', exists_eq_left', pickOK_nil, pickOK_one, cInt_dec, List.toList_toArray, rg1, length_ofBytes, take_ofBytes, getD_ofBytes, app1_ofBytes, lOne_dec, pureB_bytes, resIn, List.contains_cons, List.contains_nil, Bool.or_false, beq_self_eq_true, List.range'_zero, Nat.reducePow, C1by_ns, C1by_pre, C1by_r, C1by_H, optP_some, optV_some, optH_some, Int.toNat_natCast, Nat.reduceLeDiff, Nat.lt_irrefl, Nat.mul_one, tk5, dz5, eb5, tk31, kLetter]
    refine ⟨fun hi => ?_, fun hi => ?_⟩
    · have hs := hstep (by omega)
      refine ⟨by omega, fun h2 => ?_, fun h2 => ⟨fun h3 => ⟨h3, ?_⟩, fun h3 => ⟨h3, ?_⟩, fun h3 => ?_, fun h3 => ?_⟩⟩
      · rw [show netStep out (ks.getD i 0) = out ++ [ks.getD i 0] from if_pos h2] at hs
        refine ⟨⟨by decide, by omega⟩, (i + 1, out ++ [ks.getD i 0]), ⟨by show i + 1 ≤ _; omega, ?_, hs⟩, by show _ - (i + 1) < _; omega, .inl ⟨rfl, pureB_bytes _⟩, by simp, by rw [wrap64 (by omega) (by omega)]; rfl⟩
        show (out ++ [ks.getD i 0]).length ≤ i + 1
        simp; omega
      · simp only [Bool.and_eq_true, decide_eq_true_eq] at h3
        rw [wrap64 (by omega) (by omega)]; omega
      · simp only [Bool.and_eq_true, decide_eq_true_eq] at h3
        rw [wrap64 (by omega) (by omega)]; omega
      · have h4 : (0 : Int) < out.length := by simp only [Bool.and_eq_true, decide_eq_true_eq] at h3; exact h3.1.2
        rw [wrap64 (by omega) (by omega)] at h3 ⊢
        have h5 : ((out.length : Int) - 1).toNat = out.length - 1 := by omega
        rw [h5] at h3 ⊢
        have h6 : netStep out (ks.getD i 0) = out.take (out.length - 1) := by
          unfold netStep
          rw [if_neg (by rw [h2]; simp), if_pos ?_]
          simp only [Bool.and_eq_true, decide_eq_true_eq] at h3 ⊢
          exact ⟨⟨h3.1.1, by omega⟩, h3.2⟩
        rw [h6] at hs hnl
        refine ⟨by omega, (i + 1, out.take (out.length - 1)), ⟨by show i + 1 ≤ _; omega, by show (out.take (out.length - 1)).length ≤ i + 1; omega, hs⟩, by show _ - (i + 1) < _; omega, .inl ⟨rfl, pureB_bytes _⟩, ?_, by rw [wrap64 (by omega) (by omega)]; rfl⟩
        show out.length - 1 = (out.take (out.length - 1)).length
        rw [List.length_take]; omega
      · have h6 : netStep out (ks.getD i 0) = out := by
          unfold netStep
          rw [if_neg (by rw [h2]; simp), if_neg ?_]
          intro h7
          simp only [Bool.and_eq_true, decide_eq_true_eq] at h7
          have h5 : (IntKind.i64.wrap ((out.length : Int) - 1)).toNat = out.length - 1 := by rw [wrap64 (by omega) (by omega)]; omega
          rw [h5] at h3
          rw [Bool.eq_false_iff] at h3
          apply h3
          simp only [Bool.and_eq_true, decide_eq_true_eq]
          exact ⟨⟨h7.1.1, by omega⟩, h7.2⟩
        rw [h6] at hs hnl
        exact ⟨(i + 1, out), ⟨by show i + 1 ≤ _; omega, by show out.length ≤ i + 1; omega, hs⟩, by show _ - (i + 1) < _; omega, .inl ⟨rfl, pureB_bytes _⟩, rfl, by rw [wrap64 (by omega) (by omega)]; rfl⟩
    · have := hx.2.2
      rw [List.drop_eq_nil_of_le (by omega)] at this
      rw [← this]; rfl

set_option maxHeartbeats 4000000 in
theorem calls_Net (ks : List UInt8) (h1 : ks.length ≤ 1099511627776) :
    CallsR Try.prog 21 [.sl 1 (ofBytes ks)] [] (.sl 1 (ofBytes (net ks))) [] := by
  refine callsR_of (mrg := true) (dyn := []) (CtrOK.cons ok_Letter (CtrOK.nil _)) mixed Try.func21 rfl (by simp [Try.ntmps21]) (by kernel_rfl) ?_
  rw [show Try.f21.results.toList = [.tmp 2] from by kernel_rfl]
  simp (maxSteps := 4000000) only [↓wpA_H, ↓wpH_seq, ↓wpH_block, ↓wpH_loop, ↓wpH_region, bselH_false, runH_nil, runH_cons, gw, gselH_plain, ↓chk, justK, ↓oneK, ↓pureK, envOf, ↓thenA_normal, ↓stepEv, opnd, Pg.look, Bool.false_eq_true, implies_true, true_and, and_true, valV, heapV, footV, ofV, ofLeaf, slen, Option.getD_some, reduceCtorEq, Nat.reduceEqDiff, List.length_nil, ite_true, ite_false, Option.some.injEq, AV.int.injEq, and_self, exists_eq_left', length_ofBytes, List.contains_nil, tk31, kLetter]
  refine loopH_intro (α := Nat × List UInt8) (fun x => ([(0, .sl 1 (ofBytes ks)), (2, .nls), (3, .own 0 1 x.2.length), (7, .sl 1 (ofBytes ks)), (8, .int .i64 ks.length), (9, .int .i64 x.1)], [.arr 5 1 (ofBytes x.2)]))
    (fun x => x.1 ≤ ks.length ∧ x.2.length ≤ x.1 ∧ (ks.drop x.1).foldl netStep x.2 = net ks) (fun x => ks.length - x.1) (0, []) ?_ ?_ ?_
  · simp [net]
  · simp (maxSteps := 4000000) only [Pg.look, true_and, and_true, subA, subQ, ptrsE, pairsO, frzO, subF, subG, pickOf, assocN, pairsE, pairsC, pairs0, frzE, frzC, frz0, frzH, Pg.freeze, List.foldl_nil, subOs, subO, subEv, subV, List.getElem?_cons_zero, reduceCtorEq, Nat.reduceEqDiff, List.nil_append, List.append_nil, List.length_nil, ite_true, ite_false, and_self, pickOK_one, Int.cast_ofNat_Int, Nat.lt_irrefl]
    all_goals first | rfl | exact ⟨rfl, rfl⟩
  · intro x hx
    obtain ⟨i, out⟩ := x
    simp only at hx
    have hstep : ∀ h : i < ks.length, (ks.drop (i + 1)).foldl netStep (netStep out (ks.getD i 0)) = net ks := fun h => by
      rw [← hx.2.2, drop_getD ks i 0 h, List.foldl_cons]
    have hnl := netStep_len out (ks.getD i 0)
    simp (maxSteps := 4000000) only [↓wpA_H, ↓wpH_skip, ↓wpH_ret, ↓wpH_exit, ↓wpH_seq, ↓wpH_cond, ↓wpH_block, ↓wpH_region, iselH_if, bselH_false, runH_nil, runH_cons, gw, gselH_plain, gselH_if, kselH_1, cselH_bool, gkind, ↓chk, justK, noW, ↓oneK, ↓pureK, ↓heapK, ↓thenA_normal, ↓thenA_exit, ↓blockA_normal, ↓blockA_exit, ↓stepEv, opnd, Pg.look, binK, intOp, dstOf, Bool.false_eq_true, implies_true, imp_self, true_and, and_true, pickC, pickV, unc, gof, mux, mergeK, condsL, valV, heapV, footV, binV, intV, mergeable, look_stripE, ofV, ofLeaf, sameK, retA, resK, tupA, subA, subQ, ptrsE, pairsO, frzO, subF, subG, pickOf, assocN, pairsE, pairsC, pairs0, frzE, frzC, frz0, frzH, Pg.freeze, List.foldl_nil, List.foldl_cons, subOs, subO, subEv, subV, slen, srcV, srcE, appK, ldCells, objAt, ↓sliceOwn, ↓callT, callC, callV, callH, normArgs, normA, resL, res, shiftR, shift1, AV.cells, TK.cells, AV.definite, AV.leaf, AV.leafy, frzAt, Op.operands, Call.operands, Array.toList_append, List.getElem?_toArray, List.getElem?_cons_succ, List.getElem?_cons_zero, Option.bind_some, Option.getD_some, reduceCtorEq, Nat.reduceEqDiff, List.nil_append, List.append_nil, List.cons_append, List.length_cons, List.length_nil, List.map_cons, List.map_nil, List.set_cons_zero, Nat.zero_add, ite_true, ite_false, Option.some.injEq, Option.isSome_some, AV.int.injEq, AV.sl.injEq, Bool.if_false_right, Bool.if_true_left, Bool.decide_eq_true, decide_eq_true_eq, decide_eq_false_iff_not, Int.not_lt, List.all_cons, List.all_nil, Bool.and_self, and_self, Bool.not_eq_true', exists_eq_left', pickOK_nil, pickOK_one, cInt_dec, List.toList_toArray, rg1, length_ofBytes, take_ofBytes, getD_ofBytes, app1_ofBytes, lOne_dec, pureB_bytes, resIn, List.contains_cons, List.contains_nil, Bool.or_false, beq_self_eq_true, List.range'_zero, Nat.reducePow, C1by_ns, C1by_pre, C1by_r, C1by_H, optP_some, optV_some, optH_some, Int.toNat_natCast, Nat.reduceLeDiff, Nat.lt_irrefl, Nat.mul_one, tk5, dz5, eb5, tk31, kLetter]
    have same : netStep out (ks.getD i 0) = out → ∀ (h : i < ks.length), ∃ y : Nat × List UInt8, (y.1 ≤ ks.length ∧ y.2.length ≤ y.1 ∧ (ks.drop y.1).foldl netStep y.2 = net ks) ∧ ks.length - y.1 < ks.length - i ∧
        subX [AO.arr 5 1 (ofBytes out)] [] [some 0] (ofBytes out) (ofBytes y.2) ∧ out.length = y.2.length ∧ IntKind.i64.wrap (i + 1) = y.1 := fun e h => by
      have hs := hstep h
      rw [e] at hs
      exact ⟨(i + 1, out), ⟨by show i + 1 ≤ _; omega, by show out.length ≤ i + 1; omega, hs⟩, by show _ - (i + 1) < _; omega, .inl ⟨rfl, pureB_bytes _⟩, rfl, by rw [wrap64 (by omega) (by omega)]; rfl⟩
    refine ⟨fun hi => ?_, fun hi => ?_⟩
    · have hs := hstep (by omega)
      refine ⟨by omega, fun h2 => ?_, fun h2 => ⟨fun h8 => ⟨fun h3 => ⟨h3, ?_⟩, fun h3 => ⟨h3, ?_⟩, fun h3 => ?_, fun h3 => ?_⟩, fun h8 => same ?_ (by omega)⟩⟩
      · rw [show netStep out (ks.getD i 0) = out ++ [ks.getD i 0] from if_pos h2] at hs
        refine ⟨⟨by decide, by omega⟩, (i + 1, out ++ [ks.getD i 0]), ⟨by show i + 1 ≤ _; omega, ?_, hs⟩, by show _ - (i + 1) < _; omega, .inl ⟨rfl, pureB_bytes _⟩, by simp, by rw [wrap64 (by omega) (by omega)]; rfl⟩
        show (out ++ [ks.getD i 0]).length ≤ i + 1
        simp; omega
      · rw [wrap64 (by omega) (by omega)]; omega
      · rw [wrap64 (by omega) (by omega)]; omega
      · have h4 : (0 : Int) < out.length := by simp only [Bool.and_eq_true, decide_eq_true_eq] at h3; exact h3.1
        rw [wrap64 (by omega) (by omega)] at h3 ⊢
        have h5 : ((out.length : Int) - 1).toNat = out.length - 1 := by omega
        rw [h5] at h3 ⊢
        have h6 : netStep out (ks.getD i 0) = out.take (out.length - 1) := by
          unfold netStep
          rw [if_neg (by rw [h2]; simp), if_pos ?_]
          simp only [Bool.and_eq_true, decide_eq_true_eq] at h3 ⊢
          exact ⟨⟨h8, by omega⟩, h3.2⟩
        rw [h6] at hs hnl
        refine ⟨by omega, (i + 1, out.take (out.length - 1)), ⟨by show i + 1 ≤ _; omega, by show (out.take (out.length - 1)).length ≤ i + 1; omega, hs⟩, by show _ - (i + 1) < _; omega, .inl ⟨rfl, pureB_bytes _⟩, ?_, by rw [wrap64 (by omega) (by omega)]; rfl⟩
        show out.length - 1 = (out.take (out.length - 1)).length
        rw [List.length_take]; omega
      · refine same ?_ (by omega)
        unfold netStep
        rw [if_neg (by rw [h2]; simp), if_neg ?_]
        intro h7
        simp only [Bool.and_eq_true, decide_eq_true_eq] at h7
        have h5 : (IntKind.i64.wrap ((out.length : Int) - 1)).toNat = out.length - 1 := by rw [wrap64 (by omega) (by omega)]; omega
        rw [h5] at h3
        rw [Bool.eq_false_iff] at h3
        apply h3
        simp only [Bool.and_eq_true, decide_eq_true_eq]
        exact ⟨by omega, h7.2⟩
      · unfold netStep
        rw [if_neg (by rw [h2]; simp), if_neg (by simp only [h8]; simp)]
    · have := hx.2.2
      rw [List.drop_eq_nil_of_le (by omega)] at this
      rw [← this]; rfl

def kNet : C1 := C1.by [.sl 1 []] (lOne (cSl 1 cByte)) (fun d => d.length ≤ 1099511627776) (fun d => .sl 1 (ofBytes (net d))) (fun _ => [])
theorem ok_Net : C1OK Try.prog 21 kNet := C1OK.by (by kernel_rfl) (fun d h => calls_Net d h) (fun _ => rfl) (fun _ => rfl)
theorem ok_RNet : C1OK Try.prog 22 kNet := C1OK.by (by kernel_rfl) (fun d h => calls_RNet d h) (fun _ => rfl) (fun _ => rfl)
end Go.Pg
