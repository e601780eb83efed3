/- Two registers as one; the file of registers: made, asked, set by a letter. The file of registers: set by a letter. The file of registers: yanks and cuts. -/
import Derived.Test.YtohpkjpipihdoaaPgFx0
import Derived.Test.YtohpkjpipihdoaaPgAli
namespace Go.Pg
open Go Go.Proofs

def joinR (a b : RgV) : RgV :=
  if (a.1 != 0 || b.1 != 0) = true then (1, a.2 ++ b.2)
  else if ((a.2.length : Int) == 0 || (b.2.length : Int) == 0) = true then (0, a.2 ++ b.2)
  else (0, a.2.take (a.2.length - 1) ++ ((a.2.getD (a.2.length - 1) [] ++ b.2.getD 0 []) :: b.2.drop 1))
set_option maxRecDepth 20000 in
set_option maxHeartbeats 4000000 in
theorem calls_RJoin (a b : RgV) (ha : fitR a.2) (hb : fitR b.2) : CallsR Try.prog 28 [aRg a, aRg b] [] (aRg (joinR a b)) [] := by
  refine callsR_of (mrg := true) (dyn := [6]) (CtrOK.cons ok_ConcatR (CtrOK.nil _)) mixed Try.func28 rfl (by simp [Try.ntmps28]) (by kernel_rfl) ?_
  rw [show Try.f28.results.toList = [.cell 4 52] from by kernel_rfl]
  obtain ⟨ak, al⟩ := a
  obtain ⟨bk, bl⟩ := b
  have ha1 : al.length ≤ 1000000 := ha.1
  have hb1 : bl.length ≤ 1000000 := hb.1
  have ha2 : ∀ i, (al.getD i []).length ≤ 1152921504606846976 := fun i => by have := lsz_getD al i; have h9 : lsz al ≤ 1152921504606846976 := ha.2; omega
  have hb2 : ∀ i, (bl.getD i []).length ≤ 1152921504606846976 := fun i => by have := lsz_getD bl i; have h9 : lsz bl ≤ 1152921504606846976 := hb.2; omega
  simp (maxSteps := 4000000) only [↓wpA_H, ↓wpH_skip, ↓wpH_ret, ↓wpH_seq, ↓wpH_cond, ↓wpH_region, bselH_true, iselH_if, bselH_false, runH_nil, runH_cons, gw, gselH_plain, gselH_if, kselH_1, cselH_bool, gkind, ↓chk, justK, noW, ↓oneK, ↓pureK, ↓heapK, envOf, ↓thenA_normal, ↓thenA_ret, ↓stepEv, opnd, Pg.look, binK, intOp, strOp, dstOf, Bool.and_false, Bool.and_true, Bool.false_eq_true, implies_true, imp_self, true_and, and_true, forall_const, pickC, pickV, unc, gof, mux, mergeK, condsL, valV, heapV, footV, binV, intV, strV, cutV, alives, closeQ_nil, diagQ_zero, Nat.reduceAdd, mergeable, look_stripE, ofV, ofLeaf, sameK, retA, resK, tupA, subA, subQ, ptrsE, frzO, subF, subG, pickOf, frzE, frzC, frzL, frz0, frzH, Pg.freeze, List.foldl_nil, List.foldl_cons, subOs, subEv, subV_succ, subM, subL, slen, ldCells, objAt, sliceL, ↓callT, callC, callV, callH, normArgs, normA, normC, normE, resL, res8_eq, res_succ, resM, shiftR, shift1, AV.cells, TK.cells, AV.definite, AV.leaf, AV.leafy, AV.pureLeaf, AV.pureB, putCells, lay, buildL, frzAt, Op.operands, Call.operands, Array.toList_append, List.getElem?_toArray, List.getElem?_cons_succ, List.getElem?_cons_zero, Option.bind_some, Option.map_some, Option.map_none, Option.getD_some, reduceCtorEq, Nat.reduceEqDiff, Nat.reduceAdd, List.nil_append, List.append_nil, List.cons_append, List.length_cons, List.length_nil, List.map_cons, List.map_nil, List.set_cons_zero, List.set_cons_succ, Nat.zero_add, Int.reduceToNat, ite_true, ite_false, Option.some.injEq, Option.isSome_some, AV.int.injEq, AV.agg.injEq, Bool.if_true_left, Bool.decide_eq_true, List.all_cons, List.all_nil, Bool.and_self, and_self, Bool.not_eq_true', exists_eq_left', pickOK_nil, List.length_map, List.toList_toArray, rg1, rg2, rg3, Int.reduceLE, cStr_dec, cSl_dec, lOne_dec, List.contains_cons, List.contains_nil, Nat.reduceBEq, Bool.or_self, Bool.or_false, beq_self_eq_true, decL_nil, decL_cons, consO_some, List.range'_zero, Nat.reducePow, decL_str, C1by_ns, C1by_pre, C1by_r, C1by_H, optP_some, optV_some, optH_some, ← List.map_drop, ← List.map_take, getD_str, List.getD_cons_zero, cutL, List.drop_zero, List.drop_succ_cons, List.take_succ_cons, List.take_zero, Nat.add_zero, Nat.sub_zero, Nat.reduceLeDiff, Nat.le_refl, Nat.mul_one, List.drop_nil, List.take_nil, Nat.zero_lt_succ, C1by_it, regH_none, isNext, nextF, nextG, selC_false, ↓msel, muC, ↓callP, C1by_mu, mapAt, tk3, tk9, dz9, eb9, tk50, eb50, tk52, tz52, dz52, tk102, kConcatR]
  have hf : [al, bl].flatten = al ++ bl := by simp
  refine ⟨fun h => ?_, fun h => ⟨fun h2 => ?_, fun h2 => ?_⟩⟩
  · have hj : joinR (ak, al) (bk, bl) = (1, al ++ bl) := if_pos h
    rw [hj, hf]
    exact ⟨by rw [List.length_append]; omega, rfl, rfl⟩
  · have hj : joinR (ak, al) (bk, bl) = (0, al ++ bl) := by
      unfold joinR
      rw [if_neg (by rw [show ((ak, al).1 != 0 || (bk, bl).1 != 0) = false from h]; simp)]
      exact if_pos h2
    rw [hj, hf]
    exact ⟨by rw [List.length_append]; omega, rfl, rfl⟩
  · have hj : joinR (ak, al) (bk, bl) = (0, al.take (al.length - 1) ++ ((al.getD (al.length - 1) [] ++ bl.getD 0 []) :: bl.drop 1)) := by
      unfold joinR
      rw [if_neg (by rw [show ((ak, al).1 != 0 || (bk, bl).1 != 0) = false from h]; simp)]
      exact if_neg (by rw [show (((ak, al).2.length : Int) == 0 || ((bk, bl).2.length : Int) == 0) = false from h2]; simp)
    simp only [Bool.or_eq_false_iff, beq_eq_false_iff_ne, ne_eq] at h2
    have w : IntKind.i64.wrap ((al.length : Int) - 1) = ((al.length - 1 : Nat) : Int) := by rw [wrap64 (by omega) (by omega)]; omega
    have h3 := ha2 (al.length - 1)
    have h4 := hb2 0
    have hf3 : ∀ (x : LsR) (y : List UInt8) (z : LsR), [x, [y], z].flatten = x ++ y :: z := fun x y z => by simp
    rw [w, Int.toNat_natCast, hj, hf3]
    exact ⟨⟨by omega, by omega⟩, ⟨by omega, by omega⟩, by omega, by omega, by omega, by rw [List.length_append, List.length_take, List.length_cons, List.length_drop]; omega, by kernel_rfl, rfl, rfl⟩
def kRJoin : C1 := C1.by [.ag [none, some 1], .ag [none, some 1]] (lCons cRgV (lOne cRgV)) (fun d => fitR d.1.2 ∧ fitR d.2.2) (fun d => aRg (joinR d.1 d.2)) (fun _ => [])
theorem ok_RJoin : C1OK Try.prog 28 kRJoin := C1OK.by (by kernel_rfl) (fun d h => calls_RJoin d.1 d.2 h.1 h.2) (fun _ => rfl) (fun _ => rfl)

/-! ### The file -/
abbrev Rgs := List (UInt8 × RgV)
theorem setE_rg (k : UInt8) (a : Int) (s : LsR) (l : Rgs) : setE (.int .u8 k.toNat) (.agg [.int .i64 a, .sl 1 (s.map .str)]) (encE cByte cRgV l) = encE cByte cRgV (upd k (a, s) l) := setE_byte cRgV k (a, s) l
theorem decE_rg (l : Rgs) : decE cByte cRgV (encE cByte cRgV l) = some l := decE_enc cByte cRgV cByte_dec cRgV_ed l
def hFile : HC (Rgs × Unit) := hPtr 92 1 (hCons (hMp cByte cRgV) hNil)
abbrev rgH (l : Rgs) : AH := [.arr 92 1 [.agg [.mp 1]], .mp (encE cByte cRgV l)]
theorem subX_one' {H : AH} {F : List Nat} {pick : List (Option Nat)} {x y : AV} (h : subL (subV H F pick 8) x.cells y.cells) : subX H F pick [x] [y] := .inr ⟨h, trivial⟩

set_option maxHeartbeats 4000000 in
theorem calls_RNew : CallsR Try.prog 33 [] [] (.ptr 0 1 1 0 0) (rgH []) := by
  refine callsR_of (mrg := true) (dyn := []) (CtrOK.nil _) mixed Try.func33 rfl (by simp [Try.ntmps33]) (by kernel_rfl) ?_
  rw [show Try.f33.results.toList = [.tmp 0] from by kernel_rfl]
  simp (maxSteps := 4000000) only [↓wpA_H, ↓wpH_ret, ↓wpH_seq, ↓wpH_region, bselH_false, runH_nil, runH_cons, gw, gselH_plain, ↓chk, justK, noW, ↓oneK, ↓pureK, ↓heapK, envOf, ↓thenA_normal, ↓stepEv, opnd, Pg.look, Bool.and_true, Bool.false_eq_true, implies_true, true_and, and_true, valV, heapV, footV, alives, aliveO, nxtQ, hdS, pairsA, frzA, closeQ_nil, closeQ_succ, diagQ_zero, ofV, ofLeaf, retA, resK, tupA, subA, subQ, ptrsE, pairsO, frzO, subF, subG, pickOf, assocN, pairsE, pairsC, pairsL, pairs0, frzE, frzC, frzL, frz0, frzH, Pg.freeze, List.foldl_nil, subOs, subO, subEv, subV_succ, subM, AV.cells, AV.definite, AV.pureLeaf, AV.pureB, lay, buildL, List.getElem?_cons_succ, List.getElem?_cons_zero, Option.getD_some, reduceCtorEq, Nat.reduceEqDiff, List.nil_append, List.append_nil, List.cons_append, List.length_cons, List.length_nil, List.map_cons, List.map_nil, Nat.zero_add, ite_true, ite_false, Option.some.injEq, Option.isSome_some, AV.agg.injEq, List.all_cons, List.all_nil, Bool.and_self, and_self, exists_eq_left', List.contains_nil, List.drop_succ_cons, List.take_zero, Nat.le_refl, Nat.lt_irrefl, List.drop_nil, Nat.not_lt_zero, regH_none, isNext, nextF, nextG, selC_false, encE_nil, ↓mapK, tk92, tz92]
  refine ⟨by decide, subX_one' ?_⟩
  simp (maxSteps := 4000000) only [subV_succ, subM, subL, AV.cells, List.getElem?_cons_succ, List.getElem?_cons_zero, and_self]
def kRNew : C1 := C1.mby hNil (fun _ => True) (fun _ => .ptr 0 1 1 0 0) (fun _ => rgH [])
theorem ok_RNew : C1OK Try.prog 33 kRNew := C1OK.mby (by kernel_rfl) (fun _ _ => calls_RNew) (fun _ _ => Nat.zero_le _)

def isUp (b : UInt8) : Bool := decide (65 ≤ b.toNat) && decide (b.toNat ≤ 90)
def isLow (b : UInt8) : Bool := decide (97 ≤ b.toNat) && decide (b.toNat ≤ 122)
/-- The name that is asked. -/
def gname (b : UInt8) : UInt8 := if b = 0 then 34 else if isUp b = true then b + 32 else b
theorem up_wrap {b : UInt8} (h : isUp b = true) : IntKind.u8.wrap ((b.toNat : Int) + 32) = ((b + 32).toNat : Int) := by
  simp only [isUp, Bool.and_eq_true, decide_eq_true_eq] at h
  rw [UInt8.toNat_add, show (32 : UInt8).toNat = 32 from rfl]
  simp [IntKind.wrap, IntKind.bits, IntKind.signed]
theorem up_eq (b : UInt8) : (decide ((b.toNat : Int) ≥ 65) && decide ((b.toNat : Int) ≤ 90)) = isUp b := by
  unfold isUp
  rw [show decide ((b.toNat : Int) ≥ 65) = decide (65 ≤ b.toNat) by rw [Bool.eq_iff_iff]; simp only [decide_eq_true_eq]; omega, show decide ((b.toNat : Int) ≤ 90) = decide (b.toNat ≤ 90) by rw [Bool.eq_iff_iff]; simp only [decide_eq_true_eq]; omega]
theorem low_eq (b : UInt8) : (decide ((b.toNat : Int) ≥ 97) && decide ((b.toNat : Int) ≤ 122)) = isLow b := by
  unfold isLow
  rw [show decide ((b.toNat : Int) ≥ 97) = decide (97 ≤ b.toNat) by rw [Bool.eq_iff_iff]; simp only [decide_eq_true_eq]; omega, show decide ((b.toNat : Int) ≤ 122) = decide (b.toNat ≤ 122) by rw [Bool.eq_iff_iff]; simp only [decide_eq_true_eq]; omega]
theorem byte_eq (a b : UInt8) : ((a.toNat : Int) == (b.toNat : Int)) = (a == b) := by
  rw [Bool.eq_iff_iff]
  simp only [beq_iff_eq]
  exact ⟨fun h => UInt8.toNat_inj.1 (by omega), fun h => by rw [h]⟩

set_option maxRecDepth 20000 in
set_option maxHeartbeats 4000000 in
theorem calls_RGet (l : Rgs) (b : UInt8) (hl : ∀ v, look1 (gname b) l = some v → v.2.length ≤ 4398046511104) : CallsR Try.prog 35 [.ptr 0 1 1 0 0, .int .u8 b.toNat] (rgH l)
    (.tuple [aRg ((look1 (gname b) l).getD (0, [])), .bool (look1 (gname b) l).isSome]) (rgH l) := by
  refine callsR_of (mrg := true) (dyn := []) (CtrOK.cons ok_RgClone (CtrOK.nil _)) mixed Try.func35 rfl (by simp [Try.ntmps35]) (by kernel_rfl) ?_
  rw [show Try.f35.results.toList = [.cell 4 52, .tmp 5] from by kernel_rfl]
  by_cases h0 : b = 0
  · have c0 : ((b.toNat : Int) == 0) = true := by rw [h0]; rfl
    have hg : gname b = 34 := if_pos h0
    rw [hg] at hl ⊢
    have hf : findE (.int .u8 34) (encE cByte cRgV l) = (look1 34 l).map cRgV.enc := findE_byte cRgV 34 l
    cases hk : look1 34 l with
    | none =>
      rw [hk] at hf
      simp (maxSteps := 4000000) only [↓wpA_H, ↓wpH_ret, ↓wpH_seq, ↓wpH_cond, ↓wpH_block, ↓wpH_region, ↓iselH_true, bselH_false, runH_nil, runH_cons, gw, gselH_plain, cselH_bool, ↓chk, justK, noW, ↓oneK, ↓pureK, ↓heapK, envOf, ↓thenA_normal, ↓blockA_normal, ↓stepEv, opnd, Pg.look, binK, intOp, Bool.and_true, Bool.false_eq_true, implies_true, imp_self, true_and, and_true, valV, heapV, footV, binV, intV, alives, aliveO, nxtQ, hdS, pairsA, frzA, closeQ_nil, closeQ_succ, diagQ_zero, diagQ_succ, Nat.reduceAdd, ofV, ofLeaf, retA, resK, tupA, subA, subQ, ptrsE, pairsO, frzO, subF, subG, pickOf, pairsE, pairsC, pairsL, pairs0, frzE, frzC, frzL, frz0, frzH, Pg.freeze, List.foldl_nil, subOs, subO, subEv, subV_succ, subM, subL, ldCells, objAt, ↓callT, callC, callV, callH, normArgs, normA, normC, normL, resL, res8_eq, res_succ, resM, shiftR, shift1, AV.cells, TK.cells, AV.definite, AV.leaf, AV.leafy, AV.pureLeaf, AV.pureB, putCells, lay, List.getElem?_cons_succ, List.getElem?_cons_zero, Option.map_none, Option.getD_some, Option.getD_none, reduceCtorEq, Nat.reduceEqDiff, Nat.reduceAdd, Nat.reduceLT, List.nil_append, List.append_nil, List.cons_append, List.length_cons, List.length_nil, List.map_cons, List.map_nil, List.set_cons_zero, List.set_cons_succ, Nat.zero_add, ite_true, ite_false, Option.some.injEq, Option.isSome_none, List.all_cons, List.all_nil, Bool.and_self, and_self, exists_eq_left', cInt_dec, cSl_dec, cAgg_dec, lOne_dec, lCons_dec, dec2_some, List.contains_nil, beq_self_eq_true, decL_nil, List.range'_zero, C1by_ns, C1by_pre, C1by_r, C1by_H, optP_some, optV_some, optH_some, List.getD_cons_zero, cutL, List.drop_zero, List.drop_succ_cons, List.take_succ_cons, List.take_zero, Nat.add_zero, Nat.sub_zero, Nat.le_refl, List.drop_nil, List.take_nil, Nat.zero_lt_succ, Nat.zero_le, C1by_it, regH_none, isNext, nextF, nextG, selC_false, ↓msel, muC, ↓callP, C1by_mu, keys_byte, ↓mapK, mapAt, isKeyA, kdT, hasE, lookV, tk52, tz52, dz52, tk90, mt90, tk92, dz92, kRgClone, c0, hf]
      refine ⟨by decide, subX_one' ?_⟩
      simp (maxSteps := 4000000) only [subV_succ, subM, subL, AV.cells, List.getElem?_cons_succ, List.getElem?_cons_zero, and_self]
    | some v =>
      obtain ⟨vk, vl⟩ := v
      have hvl : vl.length ≤ 4398046511104 := hl _ hk
      rw [hk] at hf
      simp (maxSteps := 4000000) only [↓wpA_H, ↓wpH_ret, ↓wpH_seq, ↓wpH_cond, ↓wpH_block, ↓wpH_region, ↓iselH_true, bselH_false, runH_nil, runH_cons, gw, gselH_plain, cselH_bool, ↓chk, justK, noW, ↓oneK, ↓pureK, ↓heapK, envOf, ↓thenA_normal, ↓blockA_normal, ↓stepEv, opnd, Pg.look, binK, intOp, Bool.and_true, Bool.false_eq_true, implies_true, imp_self, true_and, and_true, valV, heapV, footV, binV, intV, alives, aliveO, nxtQ, hdS, pairsA, frzA, closeQ_nil, closeQ_succ, diagQ_zero, diagQ_succ, Nat.reduceAdd, ofV, ofLeaf, retA, resK, tupA, subA, subQ, ptrsE, pairsO, frzO, subF, subG, pickOf, pairsE, pairsC, pairsL, pairs0, frzE, frzC, frzL, frz0, frzH, Pg.freeze, List.foldl_nil, subOs, subO, subEv, subV_succ, subM, subL, ldCells, objAt, ↓callT, callC, callV, callH, normArgs, normA, normC, normL, resL, res8_eq, res_succ, resM, shiftR, shift1, AV.cells, TK.cells, AV.definite, AV.leaf, AV.leafy, AV.pureLeaf, AV.pureB, putCells, lay, List.getElem?_cons_succ, List.getElem?_cons_zero, Option.map_some, Option.getD_some, reduceCtorEq, Nat.reduceEqDiff, Nat.reduceAdd, Nat.reduceLT, List.nil_append, List.append_nil, List.cons_append, List.length_cons, List.length_nil, List.map_cons, List.map_nil, List.set_cons_zero, List.set_cons_succ, Nat.zero_add, ite_true, ite_false, Option.some.injEq, Option.isSome_some, List.all_cons, List.all_nil, Bool.and_self, and_self, exists_eq_left', cInt_dec, cSl_dec, cAgg_dec, lOne_dec, lCons_dec, dec2_some, List.contains_nil, beq_self_eq_true, List.range'_zero, decL_str, C1by_ns, C1by_pre, C1by_r, C1by_H, optP_some, optV_some, optH_some, List.getD_cons_zero, cutL, List.drop_zero, List.drop_succ_cons, List.take_succ_cons, List.take_zero, Nat.add_zero, Nat.sub_zero, Nat.le_refl, List.drop_nil, List.take_nil, Nat.zero_lt_succ, C1by_it, regH_none, isNext, nextF, nextG, selC_false, ↓msel, muC, ↓callP, C1by_mu, keys_byte, ↓mapK, mapAt, isKeyA, kdT, hasE, lookV, tk52, tz52, dz52, tk90, mt90, tk92, dz92, kRgClone, c0, hf, cRgV_enc, hvl]
      refine ⟨by decide, subX_one' ?_⟩
      simp (maxSteps := 4000000) only [subV_succ, subM, subL, AV.cells, List.getElem?_cons_succ, List.getElem?_cons_zero, and_self]
  · have c0 : ((b.toNat : Int) == 0) = false := by
      have h := byte_eq b 0
      rw [show (((0 : UInt8).toNat : Nat) : Int) = 0 from rfl] at h
      rw [h, beq_eq_false_iff_ne]; exact h0
    have c1 := up_eq b
    cases hu : isUp b with
    | true =>
      rw [hu] at c1
      have hg : gname b = b + 32 := by unfold gname; rw [if_neg h0, if_pos hu]
      have hw := up_wrap hu
      rw [hg] at hl ⊢
      cases hk : look1 (b + 32) l with
      | none =>
        simp (maxSteps := 4000000) only [↓wpA_H, ↓wpH_ret, ↓wpH_seq, ↓wpH_cond, ↓wpH_block, ↓wpH_region, ↓iselH_true, ↓iselH_false, bselH_false, runH_nil, runH_cons, gw, gselH_plain, gselH_if, kselH_1, cselH_bool, gkind, ↓chk, justK, noW, ↓oneK, ↓pureK, ↓heapK, envOf, ↓thenA_normal, ↓blockA_normal, ↓stepEv, opnd, Pg.look, binK, intOp, dstOf, Bool.and_true, Bool.false_eq_true, implies_true, imp_self, true_and, and_true, pickC, pickV, unc, gof, mux, mergeK, condsL, valV, heapV, footV, binV, intV, alives, aliveO, nxtQ, hdS, pairsA, frzA, closeQ_nil, closeQ_succ, diagQ_zero, diagQ_succ, Nat.reduceAdd, mergeable, look_stripE, ofV, ofLeaf, sameK, retA, resK, tupA, subA, subQ, ptrsE, pairsO, frzO, subF, subG, pickOf, pairsE, pairsC, pairsL, pairs0, frzE, frzC, frzL, frz0, frzH, Pg.freeze, List.foldl_nil, subOs, subO, subEv, subV_succ, subM, subL, ldCells, objAt, ↓callT, callC, callV, callH, normArgs, normA, normC, normL, resL, res8_eq, res_succ, resM, shiftR, shift1, AV.cells, TK.cells, AV.definite, AV.leaf, AV.leafy, AV.pureLeaf, AV.pureB, putCells, lay, Op.operands, List.getElem?_toArray, List.getElem?_cons_succ, List.getElem?_cons_zero, Option.bind_some, Option.map_none, Option.getD_some, Option.getD_none, reduceCtorEq, Nat.reduceEqDiff, Nat.reduceAdd, Nat.reduceLT, List.nil_append, List.append_nil, List.cons_append, List.length_cons, List.length_nil, List.map_cons, List.map_nil, List.set_cons_zero, List.set_cons_succ, Nat.zero_add, ite_true, ite_false, Option.some.injEq, Option.isSome_none, Bool.if_false_right, decide_eq_true_eq, decide_eq_false_iff_not, Int.not_le, List.all_cons, List.all_nil, Bool.and_self, and_self, exists_eq_left', cInt_dec, List.toList_toArray, cSl_dec, cAgg_dec, lOne_dec, lCons_dec, dec2_some, List.contains_nil, beq_self_eq_true, decL_nil, List.range'_zero, C1by_ns, C1by_pre, C1by_r, C1by_H, optP_some, optV_some, optH_some, List.getD_cons_zero, cutL, List.drop_zero, List.drop_succ_cons, List.take_succ_cons, List.take_zero, Nat.add_zero, Nat.sub_zero, Nat.le_refl, List.drop_nil, List.take_nil, Nat.zero_lt_succ, Nat.zero_le, C1by_it, regH_none, isNext, nextF, nextG, selC_false, ↓msel, muC, ↓callP, C1by_mu, findE_byte, keys_byte, ↓mapK, mapAt, isKeyA, kdT, hasE, lookV, tk52, tz52, dz52, tk90, mt90, tk92, dz92, kRgClone, c0, c1, hw, hk]
        refine ⟨by decide, subX_one' ?_⟩
        simp (maxSteps := 4000000) only [subV_succ, subM, subL, AV.cells, List.getElem?_cons_succ, List.getElem?_cons_zero, and_self]
      | some v =>
        obtain ⟨vk, vl⟩ := v
        have hvl : vl.length ≤ 4398046511104 := hl _ hk
        simp (maxSteps := 4000000) only [↓wpA_H, ↓wpH_ret, ↓wpH_seq, ↓wpH_cond, ↓wpH_block, ↓wpH_region, ↓iselH_true, ↓iselH_false, bselH_false, runH_nil, runH_cons, gw, gselH_plain, gselH_if, kselH_1, cselH_bool, gkind, ↓chk, justK, noW, ↓oneK, ↓pureK, ↓heapK, envOf, ↓thenA_normal, ↓blockA_normal, ↓stepEv, opnd, Pg.look, binK, intOp, dstOf, Bool.and_true, Bool.false_eq_true, implies_true, imp_self, true_and, and_true, pickC, pickV, unc, gof, mux, mergeK, condsL, valV, heapV, footV, binV, intV, alives, aliveO, nxtQ, hdS, pairsA, frzA, closeQ_nil, closeQ_succ, diagQ_zero, diagQ_succ, Nat.reduceAdd, mergeable, look_stripE, ofV, ofLeaf, sameK, retA, resK, tupA, subA, subQ, ptrsE, pairsO, frzO, subF, subG, pickOf, pairsE, pairsC, pairsL, pairs0, frzE, frzC, frzL, frz0, frzH, Pg.freeze, List.foldl_nil, subOs, subO, subEv, subV_succ, subM, subL, ldCells, objAt, ↓callT, callC, callV, callH, normArgs, normA, normC, normL, resL, res8_eq, res_succ, resM, shiftR, shift1, AV.cells, TK.cells, AV.definite, AV.leaf, AV.leafy, AV.pureLeaf, AV.pureB, putCells, lay, Op.operands, List.getElem?_toArray, List.getElem?_cons_succ, List.getElem?_cons_zero, Option.bind_some, Option.map_some, Option.getD_some, reduceCtorEq, Nat.reduceEqDiff, Nat.reduceAdd, Nat.reduceLT, List.nil_append, List.append_nil, List.cons_append, List.length_cons, List.length_nil, List.map_cons, List.map_nil, List.set_cons_zero, List.set_cons_succ, Nat.zero_add, ite_true, ite_false, Option.some.injEq, Option.isSome_some, Bool.if_false_right, decide_eq_true_eq, decide_eq_false_iff_not, Int.not_le, List.all_cons, List.all_nil, Bool.and_self, and_self, exists_eq_left', cInt_dec, List.toList_toArray, cSl_dec, cAgg_dec, lOne_dec, lCons_dec, dec2_some, List.contains_nil, beq_self_eq_true, List.range'_zero, decL_str, C1by_ns, C1by_pre, C1by_r, C1by_H, optP_some, optV_some, optH_some, List.getD_cons_zero, cutL, List.drop_zero, List.drop_succ_cons, List.take_succ_cons, List.take_zero, Nat.add_zero, Nat.sub_zero, Nat.le_refl, List.drop_nil, List.take_nil, Nat.zero_lt_succ, C1by_it, regH_none, isNext, nextF, nextG, selC_false, ↓msel, muC, ↓callP, C1by_mu, findE_byte, keys_byte, ↓mapK, mapAt, isKeyA, kdT, hasE, lookV, tk52, tz52, dz52, tk90, mt90, tk92, dz92, kRgClone, c0, c1, hw, hk, cRgV_enc, hvl]
        refine ⟨by decide, subX_one' ?_⟩
        simp (maxSteps := 4000000) only [subV_succ, subM, subL, AV.cells, List.getElem?_cons_succ, List.getElem?_cons_zero, and_self]
    | false =>
      rw [hu] at c1
      have hg : gname b = b := by unfold gname; rw [if_neg h0, if_neg (by rw [hu]; simp)]
      rw [hg] at hl ⊢
      cases hk : look1 b l with
      | none =>
        simp (maxSteps := 4000000) only [↓wpA_H, ↓wpH_skip, ↓wpH_ret, ↓wpH_seq, ↓wpH_cond, ↓wpH_block, ↓wpH_region, ↓iselH_false, bselH_false, runH_nil, runH_cons, gw, gselH_plain, gselH_if, kselH_1, cselH_bool, gkind, ↓chk, justK, noW, ↓oneK, ↓pureK, ↓heapK, envOf, ↓thenA_normal, ↓blockA_normal, ↓stepEv, opnd, Pg.look, binK, intOp, dstOf, Bool.and_true, Bool.false_eq_true, implies_true, imp_self, true_and, and_true, pickC, pickV, unc, gof, mux, mergeK, condsL, valV, heapV, footV, binV, intV, alives, aliveO, nxtQ, hdS, pairsA, frzA, closeQ_nil, closeQ_succ, diagQ_zero, diagQ_succ, Nat.reduceAdd, mergeable, look_stripE, ofV, ofLeaf, sameK, retA, resK, tupA, subA, subQ, ptrsE, pairsO, frzO, subF, subG, pickOf, pairsE, pairsC, pairsL, pairs0, frzE, frzC, frzL, frz0, frzH, Pg.freeze, List.foldl_nil, subOs, subO, subEv, subV_succ, subM, subL, ldCells, objAt, ↓callT, callC, callV, callH, normArgs, normA, normC, normL, resL, res8_eq, res_succ, resM, shiftR, shift1, AV.cells, TK.cells, AV.definite, AV.leaf, AV.leafy, AV.pureLeaf, AV.pureB, putCells, lay, Op.operands, List.getElem?_toArray, List.getElem?_cons_succ, List.getElem?_cons_zero, Option.bind_some, Option.map_none, Option.getD_some, Option.getD_none, reduceCtorEq, Nat.reduceEqDiff, Nat.reduceAdd, Nat.reduceLT, List.nil_append, List.append_nil, List.cons_append, List.length_cons, List.length_nil, List.map_cons, List.map_nil, List.set_cons_zero, List.set_cons_succ, Nat.zero_add, ite_true, ite_false, Option.some.injEq, Option.isSome_none, Bool.if_false_right, decide_eq_true_eq, decide_eq_false_iff_not, Int.not_le, List.all_cons, List.all_nil, Bool.and_self, and_self, exists_eq_left', cInt_dec, List.toList_toArray, cSl_dec, cAgg_dec, lOne_dec, lCons_dec, dec2_some, List.contains_nil, beq_self_eq_true, decL_nil, List.range'_zero, C1by_ns, C1by_pre, C1by_r, C1by_H, optP_some, optV_some, optH_some, List.getD_cons_zero, cutL, List.drop_zero, List.drop_succ_cons, List.take_succ_cons, List.take_zero, Nat.add_zero, Nat.sub_zero, Nat.le_refl, List.drop_nil, List.take_nil, Nat.zero_lt_succ, Nat.zero_le, C1by_it, regH_none, isNext, nextF, nextG, selC_false, ↓msel, muC, ↓callP, C1by_mu, findE_byte, keys_byte, ↓mapK, mapAt, isKeyA, kdT, hasE, lookV, tk52, tz52, dz52, tk90, mt90, tk92, dz92, kRgClone, c0, c1, hk]
        refine ⟨by decide, subX_one' ?_⟩
        simp (maxSteps := 4000000) only [subV_succ, subM, subL, AV.cells, List.getElem?_cons_succ, List.getElem?_cons_zero, and_self]
      | some v =>
        obtain ⟨vk, vl⟩ := v
        have hvl : vl.length ≤ 4398046511104 := hl _ hk
        simp (maxSteps := 4000000) only [↓wpA_H, ↓wpH_skip, ↓wpH_ret, ↓wpH_seq, ↓wpH_cond, ↓wpH_block, ↓wpH_region, ↓iselH_false, bselH_false, runH_nil, runH_cons, gw, gselH_plain, gselH_if, kselH_1, cselH_bool, gkind, ↓chk, justK, noW, ↓oneK, ↓pureK, ↓heapK, envOf, ↓thenA_normal, ↓blockA_normal, ↓stepEv, opnd, Pg.look, binK, intOp, dstOf, Bool.and_true, Bool.false_eq_true, implies_true, imp_self, true_and, and_true, pickC, pickV, unc, gof, mux, mergeK, condsL, valV, heapV, footV, binV, intV, alives, aliveO, nxtQ, hdS, pairsA, frzA, closeQ_nil, closeQ_succ, diagQ_zero, diagQ_succ, Nat.reduceAdd, mergeable, look_stripE, ofV, ofLeaf, sameK, retA, resK, tupA, subA, subQ, ptrsE, pairsO, frzO, subF, subG, pickOf, pairsE, pairsC, pairsL, pairs0, frzE, frzC, frzL, frz0, frzH, Pg.freeze, List.foldl_nil, subOs, subO, subEv, subV_succ, subM, subL, ldCells, objAt, ↓callT, callC, callV, callH, normArgs, normA, normC, normL, resL, res8_eq, res_succ, resM, shiftR, shift1, AV.cells, TK.cells, AV.definite, AV.leaf, AV.leafy, AV.pureLeaf, AV.pureB, putCells, lay, Op.operands, List.getElem?_toArray, List.getElem?_cons_succ, List.getElem?_cons_zero, Option.bind_some, Option.map_some, Option.getD_some, reduceCtorEq, Nat.reduceEqDiff, Nat.reduceAdd, Nat.reduceLT, List.nil_append, List.append_nil, List.cons_append, List.length_cons, List.length_nil, List.map_cons, List.map_nil, List.set_cons_zero, List.set_cons_succ, Nat.zero_add, ite_true, ite_false, Option.some.injEq, Option.isSome_some, Bool.if_false_right, decide_eq_true_eq, decide_eq_false_iff_not, Int.not_le, List.all_cons, List.all_nil, Bool.and_self, and_self, exists_eq_left', cInt_dec, List.toList_toArray, cSl_dec, cAgg_dec, lOne_dec, lCons_dec, dec2_some, List.contains_nil, beq_self_eq_true, List.range'_zero, decL_str, C1by_ns, C1by_pre, C1by_r, C1by_H, optP_some, optV_some, optH_some, List.getD_cons_zero, cutL, List.drop_zero, List.drop_succ_cons, List.take_succ_cons, List.take_zero, Nat.add_zero, Nat.sub_zero, Nat.le_refl, List.drop_nil, List.take_nil, Nat.zero_lt_succ, C1by_it, regH_none, isNext, nextF, nextG, selC_false, ↓msel, muC, ↓callP, C1by_mu, findE_byte, keys_byte, ↓mapK, mapAt, isKeyA, kdT, hasE, lookV, tk52, tz52, dz52, tk90, mt90, tk92, dz92, kRgClone, c0, c1, hk, cRgV_enc, hvl]
        refine ⟨by decide, subX_one' ?_⟩
        simp (maxSteps := 4000000) only [subV_succ, subM, subL, AV.cells, List.getElem?_cons_succ, List.getElem?_cons_zero, and_self]
def kRGet : C1 := C1.mby (hCons hFile (hCons (hP .id cByte) hNil)) (fun d => ∀ v, look1 (gname d.2.1) d.1.1 = some v → v.2.length ≤ 4398046511104)
  (fun d => .tuple [aRg ((look1 (gname d.2.1) d.1.1).getD (0, [])), .bool (look1 (gname d.2.1) d.1.1).isSome]) (fun d => rgH d.1.1)
theorem ok_RGet : C1OK Try.prog 35 kRGet := C1OK.mby (by kernel_rfl) (fun d h => calls_RGet d.1.1 d.2.1 h) (fun _ _ => Nat.le_refl _)
end Go.Pg
namespace Go.Pg
open Go Go.Proofs

def stockR (l : Rgs) : Prop := ∀ k v, look1 k l = some v → lsz v.2 ≤ 4096
theorem stock_fit {l : Rgs} (h : stockR l) {k : UInt8} {v : RgV} (hk : look1 k l = some v) : fitR v.2 := by
  have h1 := h k v hk
  have h2 := lsz_len v.2
  exact ⟨by omega, by omega⟩
theorem joinR_lsz (a b : RgV) : lsz (joinR a b).2 ≤ lsz a.2 + lsz b.2 ∧ (joinR a b).2.length ≤ a.2.length + b.2.length := by
  unfold joinR
  split
  · show lsz (a.2 ++ b.2) ≤ _ ∧ (a.2 ++ b.2).length ≤ _
    rw [lsz_app, List.length_append]; omega
  · split
    · show lsz (a.2 ++ b.2) ≤ _ ∧ (a.2 ++ b.2).length ≤ _
      rw [lsz_app, List.length_append]; omega
    · next h =>
      simp only [Bool.or_eq_true, beq_iff_eq, not_or] at h
      show lsz (a.2.take (a.2.length - 1) ++ ((a.2.getD (a.2.length - 1) [] ++ b.2.getD 0 []) :: b.2.drop 1)) ≤ _ ∧ (a.2.take (a.2.length - 1) ++ ((a.2.getD (a.2.length - 1) [] ++ b.2.getD 0 []) :: b.2.drop 1)).length ≤ _
      have h1 := lsz_take a.2 (a.2.length - 1) (by omega)
      rw [show a.2.length - 1 + 1 = a.2.length by omega, List.take_length] at h1
      have h2 : lsz b.2 = ((b.2.getD 0 []).length : Int) + 1 + lsz (b.2.drop 1) := by
        cases hb : b.2 with
        | nil => rw [hb] at h; simp at h
        | cons x r => simp [lsz]
      rw [lsz_app, lsz_cons, List.length_append, List.length_append, List.length_cons, List.length_take, List.length_drop]
      refine ⟨by omega, by omega⟩
theorem joinR_fit {a b : RgV} (ha : lsz a.2 ≤ 4096) (hb : b.2.length ≤ 100000 ∧ lsz b.2 ≤ 576460752303423488) : fitR (joinR a b).2 := by
  have h := joinR_lsz a b
  have := lsz_len a.2
  exact ⟨by omega, by omega⟩

/-- What a letter's register is to be. -/
def namedR (l : Rgs) (b : UInt8) (r : RgV) : UInt8 × RgV × Bool :=
  if isLow b = true then (b, r, true)
  else if isUp b = true then (b + 32, (match look1 (b + 32) l with
    | some w => joinR w r
    | none => r), true)
  else (0, (0, []), false)
abbrev okArg (r : RgV) : Prop := r.2.length ≤ 100000 ∧ lsz r.2 ≤ 576460752303423488
theorem okArg_fit {r : RgV} (h : okArg r) : fitR r.2 := ⟨by have := h.1; omega, by have := h.2; omega⟩
theorem namedR_fit {l : Rgs} (hl : stockR l) (b : UInt8) {r : RgV} (hr : okArg r) : fitR (namedR l b r).2.1.2 := by
  unfold namedR
  split
  · exact okArg_fit hr
  · split
    · show fitR (match look1 (b + 32) l with
        | some w => joinR w r
        | none => r).2
      split
      · next w hw => exact joinR_fit (hl _ _ hw) hr
      · exact okArg_fit hr
    · exact ⟨by simp, by simp [lsz]⟩

set_option maxRecDepth 20000 in
set_option maxHeartbeats 4000000 in
theorem calls_named (l : Rgs) (b : UInt8) (r : RgV) (hl : stockR l) (hr : okArg r) : CallsR Try.prog 57 [.ptr 0 1 1 0 0, .int .u8 b.toNat, aRg r] (rgH l)
    (.tuple [.int .u8 (namedR l b r).1.toNat, aRg (namedR l b r).2.1, .bool (namedR l b r).2.2]) (rgH l) := by
  refine callsR_of (mrg := true) (dyn := []) (CtrOK.cons ok_RgClone (CtrOK.cons ok_RJoin (CtrOK.nil _))) mixed Try.func57 rfl (by simp [Try.ntmps57]) (by kernel_rfl) ?_
  rw [show Try.f57.results.toList = [.tmp 6, .cell 7 52, .tmp 8] from by kernel_rfl]
  have hrl : r.2.length ≤ 4398046511104 := by have := hr.1; omega
  have hrf := okArg_fit hr
  have c1 := low_eq b
  have c2 := up_eq b
  unfold namedR
  cases hlo : isLow b with
  | true =>
    rw [hlo] at c1
    rw [if_pos rfl]
    simp (maxSteps := 4000000) only [↓wpA_H, ↓wpH_ret, ↓wpH_seq, ↓wpH_cond, ↓wpH_block, ↓wpH_region, ↓iselH_true, bselH_false, runH_nil, runH_cons, gw, gselH_plain, gselH_if, kselH_1, cselH_bool, gkind, ↓chk, justK, noW, ↓oneK, ↓pureK, ↓heapK, envOf, ↓thenA_normal, ↓thenA_ret, ↓blockA_ret, ↓stepEv, opnd, Pg.look, binK, intOp, dstOf, Bool.and_true, Bool.false_eq_true, false_implies, implies_true, imp_self, true_and, and_true, pickC, pickV, unc, gof, mux, mergeK, condsL, valV, heapV, footV, binV, intV, alives, aliveO, nxtQ, hdS, pairsA, frzA, closeQ_nil, closeQ_succ, diagQ_zero, diagQ_succ, Nat.reduceAdd, mergeable, look_stripE, ofV, ofLeaf, sameK, retA, resK, tupA, subA, subQ, ptrsE, pairsO, frzO, subF, subG, pickOf, pairsE, pairsC, pairsL, pairs0, frzE, frzC, frzL, frz0, frzH, Pg.freeze, List.foldl_nil, subOs, subO, subEv, subV_succ, subM, subL, ldCells, objAt, ↓callT, callC, callV, callH, normArgs, normA, normC, normL, resL, res8_eq, res_succ, resM, shiftR, shift1, AV.cells, TK.cells, AV.definite, AV.leaf, AV.leafy, AV.pureLeaf, AV.pureB, putCells, lay, Op.operands, List.getElem?_toArray, List.getElem?_cons_succ, List.getElem?_cons_zero, Option.bind_some, Option.getD_some, reduceCtorEq, Nat.reduceEqDiff, Nat.reduceAdd, Nat.reduceLT, List.nil_append, List.append_nil, List.cons_append, List.length_cons, List.length_nil, List.map_cons, List.map_nil, List.set_cons_zero, List.set_cons_succ, Nat.zero_add, ite_true, ite_false, Option.some.injEq, Prod.mk.injEq, Bool.if_false_right, decide_eq_true_eq, decide_eq_false_iff_not, Int.not_le, List.all_cons, List.all_nil, Bool.and_self, and_self, exists_eq_left', cInt_dec, List.toList_toArray, cSl_dec, cAgg_dec, lOne_dec, lCons_dec, dec2_some, List.contains_nil, List.range'_zero, decL_str, C1by_ns, C1by_pre, C1by_r, C1by_H, optP_some, optV_some, optH_some, List.getD_cons_zero, cutL, List.drop_zero, List.drop_succ_cons, List.take_succ_cons, List.take_zero, Nat.sub_zero, Nat.le_refl, List.drop_nil, List.take_nil, Nat.zero_lt_succ, C1by_it, regH_none, isNext, nextF, nextG, selC_false, ↓msel, muC, ↓callP, C1by_mu, mapAt, tk52, tz52, dz52, kRgClone, kRJoin, c1, hrl]
    (repeat' first | exact rfl | apply And.intro | exact subX_eq rfl (pureB_bytes _) | exact subX_eq rfl (pureB_aPs _) | exact subX_eq rfl rfl | decide | omega | apply subX_one)
    all_goals try simp (maxSteps := 4000000) only [subL]
  | false =>
    rw [hlo] at c1
    rw [if_neg (by simp)]
    cases hu : isUp b with
    | true =>
      rw [hu] at c2
      rw [if_pos rfl]
      have hw := up_wrap hu
      cases hk : look1 (b + 32) l with
      | none =>
        simp (maxSteps := 4000000) only [↓wpA_H, ↓wpH_skip, ↓wpH_ret, ↓wpH_seq, ↓wpH_cond, ↓wpH_block, ↓wpH_region, ↓iselH_true, ↓iselH_false, bselH_false, runH_nil, runH_cons, gw, gselH_plain, gselH_if, kselH_1, cselH_bool, gkind, ↓chk, justK, noW, ↓oneK, ↓pureK, ↓heapK, envOf, ↓thenA_normal, ↓thenA_ret, ↓blockA_ret, ↓stepEv, opnd, Pg.look, binK, intOp, dstOf, Bool.and_true, Bool.false_eq_true, false_implies, implies_true, imp_self, true_and, and_true, pickC, pickV, unc, gof, mux, mergeK, condsL, valV, heapV, footV, binV, intV, alives, aliveO, nxtQ, hdS, pairsA, frzA, closeQ_nil, closeQ_succ, diagQ_zero, diagQ_succ, Nat.reduceAdd, mergeable, look_stripE, ofV, ofLeaf, sameK, retA, resK, tupA, subA, subQ, ptrsE, pairsO, frzO, subF, subG, pickOf, pairsE, pairsC, pairsL, pairs0, frzE, frzC, frzL, frz0, frzH, Pg.freeze, List.foldl_nil, subOs, subO, subEv, subV_succ, subM, subL, ldCells, objAt, ↓callT, callC, callV, callH, normArgs, normA, normC, normL, resL, res8_eq, res_succ, resM, shiftR, shift1, AV.cells, TK.cells, AV.definite, AV.leaf, AV.leafy, AV.pureLeaf, AV.pureB, putCells, lay, Op.operands, List.getElem?_toArray, List.getElem?_cons_succ, List.getElem?_cons_zero, Option.bind_some, Option.map_none, Option.getD_some, Option.getD_none, reduceCtorEq, Nat.reduceEqDiff, Nat.reduceAdd, Nat.reduceLT, List.nil_append, List.append_nil, List.cons_append, List.length_cons, List.length_nil, List.map_cons, List.map_nil, List.set_cons_zero, List.set_cons_succ, Nat.zero_add, ite_true, ite_false, Option.some.injEq, Option.isSome_none, Prod.mk.injEq, Bool.if_false_right, decide_eq_true_eq, decide_eq_false_iff_not, Int.not_le, List.all_cons, List.all_nil, Bool.and_self, and_self, exists_eq_left', cInt_dec, List.toList_toArray, cSl_dec, cAgg_dec, lOne_dec, lCons_dec, dec2_some, List.contains_nil, beq_self_eq_true, List.range'_zero, decL_str, C1by_ns, C1by_pre, C1by_r, C1by_H, optP_some, optV_some, optH_some, List.getD_cons_zero, cutL, List.drop_zero, List.drop_succ_cons, List.take_succ_cons, List.take_zero, Nat.add_zero, Nat.sub_zero, Nat.le_refl, List.drop_nil, List.take_nil, Nat.zero_lt_succ, C1by_it, regH_none, isNext, nextF, nextG, selC_false, ↓msel, muC, ↓callP, C1by_mu, findE_byte, keys_byte, ↓mapK, mapAt, isKeyA, kdT, hasE, lookV, tk52, tz52, dz52, tk90, mt90, tk92, dz92, kRgClone, kRJoin, c1, c2, hw, hk, hrl]
        (repeat' first | exact rfl | apply And.intro | exact subX_eq rfl (pureB_bytes _) | exact subX_eq rfl (pureB_aPs _) | exact subX_eq rfl rfl | decide | omega | apply subX_one)
        all_goals try simp (maxSteps := 4000000) only [subL]
      | some w =>
        have hwf : fitR w.2 := stock_fit hl hk
        simp (maxSteps := 4000000) only [↓wpA_H, ↓wpH_ret, ↓wpH_seq, ↓wpH_cond, ↓wpH_block, ↓wpH_region, ↓iselH_true, ↓iselH_false, bselH_false, runH_nil, runH_cons, gw, gselH_plain, gselH_if, kselH_1, cselH_bool, gkind, ↓chk, justK, noW, ↓oneK, ↓pureK, ↓heapK, envOf, ↓thenA_normal, ↓thenA_ret, ↓blockA_ret, ↓stepEv, opnd, Pg.look, binK, intOp, dstOf, Bool.and_true, Bool.false_eq_true, false_implies, implies_true, imp_self, true_and, and_true, pickC, pickV, unc, gof, mux, mergeK, condsL, valV, heapV, footV, binV, intV, alives, aliveO, nxtQ, hdS, pairsA, frzA, closeQ_nil, closeQ_succ, diagQ_zero, diagQ_succ, Nat.reduceAdd, mergeable, look_stripE, ofV, ofLeaf, sameK, retA, resK, tupA, subA, subQ, ptrsE, pairsO, frzO, subF, subG, pickOf, pairsE, pairsC, pairsL, pairs0, frzE, frzC, frzL, frz0, frzH, Pg.freeze, List.foldl_nil, subOs, subO, subEv, subV_succ, subM, subL, ldCells, objAt, ↓callT, callC, callV, callH, normArgs, normA, normC, normL, resL, res8_eq, res_succ, resM, shiftR, shift1, AV.cells, TK.cells, AV.definite, AV.leaf, AV.leafy, AV.pureLeaf, AV.pureB, putCells, lay, Op.operands, List.getElem?_toArray, List.getElem?_cons_succ, List.getElem?_cons_zero, Option.bind_some, Option.map_some, Option.getD_some, reduceCtorEq, Nat.reduceEqDiff, Nat.reduceAdd, Nat.reduceLT, List.nil_append, List.append_nil, List.cons_append, List.length_cons, List.length_nil, List.map_cons, List.map_nil, List.set_cons_zero, List.set_cons_succ, Nat.zero_add, ite_true, ite_false, Option.some.injEq, Option.isSome_some, Prod.mk.injEq, Bool.if_false_right, decide_eq_true_eq, decide_eq_false_iff_not, Int.not_le, List.all_cons, List.all_nil, Bool.and_self, and_self, exists_eq_left', cInt_dec, List.toList_toArray, cSl_dec, cAgg_dec, lOne_dec, lCons_dec, dec2_some, List.contains_nil, beq_self_eq_true, List.range'_zero, decL_str, C1by_ns, C1by_pre, C1by_r, C1by_H, optP_some, optV_some, optH_some, List.getD_cons_zero, cutL, List.drop_zero, List.drop_succ_cons, List.take_succ_cons, List.take_zero, Nat.add_zero, Nat.sub_zero, Nat.le_refl, List.drop_nil, List.take_nil, Nat.zero_lt_succ, C1by_it, regH_none, isNext, nextF, nextG, selC_false, ↓msel, muC, ↓callP, C1by_mu, findE_byte, keys_byte, ↓mapK, mapAt, isKeyA, kdT, hasE, lookV, tk52, tz52, dz52, tk90, mt90, tk92, dz92, kRgClone, kRJoin, c1, c2, hw, hk, cRgV_enc]
        refine ⟨⟨hwf, hrf⟩, ?_⟩
        (repeat' first | exact rfl | apply And.intro | exact subX_eq rfl (pureB_bytes _) | exact subX_eq rfl (pureB_aPs _) | exact subX_eq rfl rfl | decide | omega | apply subX_one)
        all_goals try simp (maxSteps := 4000000) only [subL]
    | false =>
      rw [hu] at c2
      rw [if_neg (by simp)]
      simp (maxSteps := 4000000) only [↓wpA_H, ↓wpH_skip, ↓wpH_ret, ↓wpH_seq, ↓wpH_cond, ↓wpH_block, ↓wpH_region, ↓iselH_false, bselH_false, runH_nil, runH_cons, gw, gselH_plain, gselH_if, kselH_1, cselH_bool, gkind, ↓chk, justK, noW, ↓oneK, ↓pureK, ↓heapK, envOf, ↓thenA_normal, ↓blockA_normal, ↓stepEv, opnd, Pg.look, binK, intOp, dstOf, Bool.and_true, Bool.false_eq_true, implies_true, imp_self, true_and, and_true, pickC, pickV, unc, gof, mux, mergeK, condsL, valV, heapV, footV, binV, intV, alives, aliveO, nxtQ, hdS, pairsA, frzA, closeQ_nil, closeQ_succ, diagQ_zero, diagQ_succ, Nat.reduceAdd, mergeable, look_stripE, ofV, ofLeaf, sameK, retA, resK, tupA, subA, subQ, ptrsE, pairsO, frzO, subF, subG, pickOf, pairsE, pairsC, pairsL, pairs0, frzE, frzC, frzL, frz0, frzH, Pg.freeze, List.foldl_nil, subOs, subO, subEv, subV_succ, subM, subL, ldCells, objAt, res_succ, resM, AV.cells, TK.cells, AV.definite, AV.leaf, AV.leafy, AV.pureLeaf, AV.pureB, putCells, lay, buildL, Op.operands, List.getElem?_toArray, List.getElem?_cons_succ, List.getElem?_cons_zero, Option.bind_some, Option.getD_some, reduceCtorEq, Nat.reduceEqDiff, Nat.reduceAdd, Nat.reduceLT, List.nil_append, List.append_nil, List.cons_append, List.length_cons, List.length_nil, List.map_nil, List.set_cons_zero, List.set_cons_succ, Nat.zero_add, ite_true, ite_false, Option.some.injEq, Option.isSome_some, AV.agg.injEq, Bool.if_false_right, decide_eq_true_eq, decide_eq_false_iff_not, Int.not_le, List.all_cons, List.all_nil, Bool.and_self, and_self, exists_eq_left', List.toList_toArray, List.contains_nil, List.getD_cons_zero, cutL, List.drop_zero, List.drop_succ_cons, List.take_succ_cons, List.take_zero, Nat.sub_zero, Nat.le_refl, List.drop_nil, List.take_nil, Nat.zero_lt_succ, regH_none, isNext, nextF, nextG, selC_false, mapAt, tk52, tz52, dz52, kRgClone, kRJoin, c1, c2]
      (repeat' first | exact rfl | apply And.intro | exact subX_eq rfl (pureB_bytes _) | exact subX_eq rfl (pureB_aPs _) | exact subX_eq rfl rfl | decide | omega | apply subX_one)
      all_goals try simp (maxSteps := 4000000) only [subL]
def kNamed : C1 := C1.mby (hCons hFile (hCons (hP .id cByte) (hCons (hP (.ag [none, some 1]) cRgV) hNil))) (fun d => stockR d.1.1 ∧ okArg d.2.2.1)
  (fun d => .tuple [.int .u8 (namedR d.1.1 d.2.1 d.2.2.1).1.toNat, aRg (namedR d.1.1 d.2.1 d.2.2.1).2.1, .bool (namedR d.1.1 d.2.1 d.2.2.1).2.2]) (fun d => rgH d.1.1)
theorem ok_named : C1OK Try.prog 57 kNamed := C1OK.mby (by kernel_rfl) (fun d h => calls_named d.1.1 d.2.1 d.2.2.1 h.1 h.2) (fun _ _ => Nat.le_refl _)

/-- A register of a letter is set. -/
def putR (l : Rgs) (b : UInt8) (r : RgV) : Int × Rgs :=
  if (namedR l b r).2.2 = true then (if lsz (namedR l b r).2.1.2 > 4096 then (21, l) else (0, upd (namedR l b r).1 (namedR l b r).2.1 l)) else (23, l)
theorem putR_stock {l : Rgs} (hl : stockR l) (b : UInt8) (r : RgV) : stockR (putR l b r).2 := by
  unfold putR
  split
  · split
    · exact hl
    · next h =>
      intro k v hk
      have hk : look1 k (upd (namedR l b r).1 (namedR l b r).2.1 l) = some v := hk
      rw [look1_upd] at hk
      split at hk
      · cases hk; omega
      · exact hl k v hk
  · exact hl
set_option maxRecDepth 20000 in
set_option maxHeartbeats 4000000 in
theorem calls_RPut (l : Rgs) (b : UInt8) (r : RgV) (hl : stockR l) (hr : okArg r) : CallsR Try.prog 39 [.ptr 0 1 1 0 0, .int .u8 b.toNat, aRg r] (rgH l)
    (.int .i64 (putR l b r).1) (rgH (putR l b r).2) := by
  refine callsR_of (mrg := true) (dyn := []) (CtrOK.cons ok_named (CtrOK.cons ok_RgSize (CtrOK.nil _))) mixed Try.func39 rfl (by simp [Try.ntmps39]) (by kernel_rfl) ?_
  rw [show Try.f39.results.toList = [.tmp 6] from by kernel_rfl]
  have hf := namedR_fit hl b hr
  unfold putR
  obtain ⟨n, hn⟩ : ∃ n, n = namedR l b r := ⟨_, rfl⟩
  rw [← hn] at hf ⊢
  obtain ⟨nb, ⟨nk, nl⟩, nok⟩ := n
  have hf : fitR nl := hf
  cases nok with
  | true =>
    rw [if_pos rfl]
    by_cases hz : lsz nl > 4096
    · have cz : decide (lsz nl > 4096) = true := decide_eq_true hz
      rw [if_pos hz]
      simp (maxSteps := 4000000) only [↓wpA_H, ↓wpH_ret, ↓wpH_seq, ↓wpH_cond, ↓wpH_block, ↓wpH_region, ↓iselH_true, ↓iselH_false, bselH_false, runH_nil, runH_cons, gw, gselH_plain, cselH_bool, ↓chk, justK, noW, ↓oneK, ↓pureK, ↓heapK, envOf, ↓thenA_normal, ↓thenA_ret, ↓blockA_ret, ↓stepEv, opnd, Pg.look, binK, intOp, Bool.and_true, Bool.not_false, Bool.not_true, Bool.false_eq_true, false_implies, implies_true, true_and, and_true, valV, heapV, footV, binV, intV, alives, aliveO, nxtQ, hdS, pairsA, frzA, closeQ_nil, closeQ_succ, diagQ_zero, diagQ_succ, Nat.reduceAdd, ofV, ofLeaf, retA, resK, tupA, subA, subQ, ptrsE, pairsO, frzO, subF, subG, pickOf, assocN, pairsE, pairsC, pairsL, pairs0, frzE, frzC, frzL, frz0, frzH, Pg.freeze, List.foldl_nil, subOs, subO, subEv, subV_succ, subM, ldCells, objAt, ↓callT, callC, callV, callH, normArgs, normA, normC, normL, resL, res8_eq, res_succ, resM, shiftR, shift1, AV.cells, TK.cells, AV.definite, AV.leaf, AV.leafy, AV.pureLeaf, AV.pureB, putCells, lay, List.getElem?_cons_succ, List.getElem?_cons_zero, Option.getD_some, reduceCtorEq, Nat.reduceEqDiff, Nat.reduceAdd, Nat.reduceLT, Nat.reduceSub, List.nil_append, List.append_nil, List.cons_append, List.length_cons, List.length_nil, List.map_cons, List.map_nil, List.set_cons_zero, List.set_cons_succ, Nat.zero_add, ite_true, ite_false, Option.some.injEq, Prod.mk.injEq, List.all_cons, List.all_nil, Bool.and_self, and_self, exists_eq_left', cInt_dec, cByte_dec, cSl_dec, cAgg_dec, lOne_dec, lCons_dec, dec2_some, List.contains_cons, List.contains_nil, Nat.reduceBEq, Bool.or_self, List.range'_zero, decL_str, C1by_ns, C1by_pre, C1by_r, C1by_H, optP_some, optV_some, optH_some, List.getD_cons_zero, List.getD_cons_succ, cutL, List.drop_zero, List.drop_succ_cons, List.take_succ_cons, List.take_zero, Nat.sub_zero, Nat.sub_self, Nat.le_refl, List.drop_nil, List.take_nil, Nat.zero_lt_succ, C1by_it, regH_none, isNext, nextF, nextG, selC_false, ↓msel, muC, ↓callP, ↓callU, ↓callUV, ↓callUH, ↓callUF, C1by_mu, C1mby_mu, runM_eq, mkM_some, hNil_dec, hCons_dec, app3_some, hP_dec, hP1_some, hP2_some, hO1_some, hM1_mp, hMp_dec, hB1_some, hB2_arr, hBox_dec, hAgg_dec, pickF, nodupB, somes, fresh, gids, gid, putO, ren, renL, renO, tk52, tz52, dz52, kNamed, kRgSize, hFile, decE_rg, rgH, ← hn, cz]
      refine ⟨⟨hl, hr⟩, hf, ?_⟩
      (repeat' first | exact rfl | apply And.intro | exact subX_eq rfl (pureB_bytes _) | exact subX_eq rfl (pureB_aPs _) | exact subX_eq rfl rfl | decide | omega | apply subX_one)
      all_goals try simp (maxSteps := 4000000) only [subL]
    · have cz : decide (lsz nl > 4096) = false := decide_eq_false hz
      rw [if_neg hz]
      simp (maxSteps := 4000000) only [↓wpA_H, ↓wpH_skip, ↓wpH_ret, ↓wpH_seq, ↓wpH_cond, ↓wpH_block, ↓wpH_region, ↓iselH_false, bselH_false, runH_nil, runH_cons, gw, gselH_plain, cselH_bool, ↓chk, justK, noW, ↓oneK, ↓pureK, ↓heapK, envOf, ↓thenA_normal, ↓blockA_normal, ↓stepEv, opnd, Pg.look, binK, intOp, Bool.and_true, Bool.not_false, Bool.not_true, Bool.false_eq_true, false_implies, implies_true, true_and, and_true, valV, heapV, footV, binV, intV, alives, aliveO, nxtQ, hdS, pairsA, frzA, closeQ_nil, closeQ_succ, diagQ_zero, diagQ_succ, Nat.reduceAdd, ofV, ofLeaf, retA, resK, tupA, subA, subQ, ptrsE, pairsO, frzO, subF, subG, pickOf, assocN, pairsE, pairsC, pairsL, pairs0, frzE, frzC, frzL, frz0, frzH, Pg.freeze, List.foldl_nil, subOs, subO, subEv, subV_succ, subM, ldCells, objAt, ↓callT, callC, callV, callH, normArgs, normA, normC, normL, resL, res8_eq, res_succ, resM, shiftR, shift1, AV.cells, TK.cells, AV.definite, AV.leaf, AV.leafy, AV.pureLeaf, AV.pureB, putCells, lay, List.getElem?_cons_succ, List.getElem?_cons_zero, Option.getD_some, reduceCtorEq, Nat.reduceEqDiff, Nat.reduceAdd, Nat.reduceLT, Nat.reduceSub, List.nil_append, List.append_nil, List.cons_append, List.length_cons, List.length_nil, List.map_cons, List.map_nil, List.set_cons_zero, List.set_cons_succ, Nat.zero_add, ite_true, ite_false, Option.some.injEq, Option.isSome_some, Option.isSome_none, Prod.mk.injEq, List.all_cons, List.all_nil, Bool.and_self, and_self, exists_eq_left', cInt_dec, cByte_dec, cSl_dec, cAgg_dec, lOne_dec, lCons_dec, dec2_some, List.contains_cons, List.contains_nil, Nat.reduceBEq, Bool.or_self, beq_self_eq_true, List.range'_zero, decL_str, C1by_ns, C1by_pre, C1by_r, C1by_H, optP_some, optV_some, optH_some, List.getD_cons_zero, List.getD_cons_succ, cutL, List.drop_zero, List.drop_succ_cons, List.take_succ_cons, List.take_zero, Nat.add_zero, Nat.sub_zero, Nat.sub_self, Nat.le_refl, List.drop_nil, List.take_nil, Nat.zero_lt_succ, C1by_it, regH_none, isNext, nextF, nextG, selC_true, selC_false, pureC, ↓msel, muC, ↓callP, ↓callU, ↓callUV, ↓callUH, ↓callUF, C1by_mu, C1mby_mu, runM_eq, mkM_some, hNil_dec, hCons_dec, app3_some, hP_dec, hP1_some, hP2_some, hO1_some, hM1_mp, hMp_dec, hB1_some, hB2_arr, hBox_dec, hAgg_dec, keys_byte, pickF, nodupB, somes, fresh, gids, gid, putO, ren, renL, renO, ↓mapK, isKeyA, kdT, tk52, tz52, dz52, tk90, mt90, tk92, dz92, kNamed, kRgSize, hFile, decE_rg, rgH, setE_rg, ← hn, cz]
      refine ⟨⟨hl, hr⟩, hf, ?_⟩
      (repeat' first | exact rfl | apply And.intro | exact subX_eq rfl (pureB_bytes _) | exact subX_eq rfl (pureB_aPs _) | exact subX_eq rfl rfl | decide | omega | apply subX_one)
      all_goals try simp (maxSteps := 4000000) only [subL]
  | false =>
    rw [if_neg (by simp)]
    simp (maxSteps := 4000000) only [↓wpA_H, ↓wpH_ret, ↓wpH_seq, ↓wpH_cond, ↓wpH_block, ↓wpH_region, ↓iselH_true, bselH_false, runH_nil, runH_cons, gw, gselH_plain, cselH_bool, ↓chk, justK, noW, ↓oneK, ↓pureK, ↓heapK, envOf, ↓thenA_normal, ↓thenA_ret, ↓blockA_ret, ↓stepEv, opnd, Pg.look, Bool.and_true, Bool.not_false, Bool.false_eq_true, implies_true, true_and, and_true, valV, heapV, footV, alives, aliveO, nxtQ, hdS, pairsA, frzA, closeQ_nil, closeQ_succ, diagQ_zero, diagQ_succ, Nat.reduceAdd, ofV, ofLeaf, retA, resK, tupA, subA, subQ, ptrsE, pairsO, frzO, subF, subG, pickOf, assocN, pairsE, pairsC, pairsL, pairs0, frzE, frzC, frzL, frz0, frzH, Pg.freeze, List.foldl_nil, subOs, subO, subEv, subV_succ, subM, ldCells, objAt, ↓callT, normA, normC, normL, resL, res8_eq, res_succ, resM, AV.cells, TK.cells, AV.definite, AV.leaf, AV.leafy, AV.pureLeaf, AV.pureB, putCells, lay, List.getElem?_cons_succ, List.getElem?_cons_zero, Option.getD_some, reduceCtorEq, Nat.reduceEqDiff, Nat.reduceAdd, Nat.reduceLT, Nat.reduceSub, List.nil_append, List.append_nil, List.cons_append, List.length_cons, List.length_nil, List.map_cons, List.map_nil, List.set_cons_zero, List.set_cons_succ, Nat.zero_add, ite_true, ite_false, Option.some.injEq, List.all_cons, List.all_nil, Bool.and_self, and_self, exists_eq_left', cInt_dec, cByte_dec, cSl_dec, cAgg_dec, lOne_dec, lCons_dec, dec2_some, List.contains_cons, List.contains_nil, Nat.reduceBEq, Bool.or_self, List.range'_zero, decL_str, List.getD_cons_zero, List.getD_cons_succ, cutL, List.drop_zero, List.drop_succ_cons, List.take_succ_cons, List.take_zero, Nat.sub_zero, Nat.sub_self, Nat.le_refl, List.drop_nil, List.take_nil, Nat.zero_lt_succ, regH_none, isNext, nextF, nextG, selC_false, ↓msel, muC, ↓callU, ↓callUV, ↓callUH, ↓callUF, C1by_mu, C1mby_mu, runM_eq, mkM_some, hNil_dec, hCons_dec, app3_some, hP_dec, hP1_some, hP2_some, hO1_some, hM1_mp, hMp_dec, hB1_some, hB2_arr, hBox_dec, hAgg_dec, pickF, nodupB, somes, fresh, gids, gid, putO, ren, renL, renO, tk52, tz52, dz52, kNamed, kRgSize, hFile, decE_rg, rgH, ← hn]
    refine ⟨⟨hl, hr⟩, ?_⟩
    (repeat' first | exact rfl | apply And.intro | exact subX_eq rfl (pureB_bytes _) | exact subX_eq rfl (pureB_aPs _) | exact subX_eq rfl rfl | decide | omega | apply subX_one)
    all_goals try simp (maxSteps := 4000000) only [subL]
def kRPut : C1 := C1.mby (hCons hFile (hCons (hP .id cByte) (hCons (hP (.ag [none, some 1]) cRgV) hNil))) (fun d => stockR d.1.1 ∧ okArg d.2.2.1)
  (fun d => .int .i64 (putR d.1.1 d.2.1 d.2.2.1).1) (fun d => rgH (putR d.1.1 d.2.1 d.2.2.1).2)
theorem ok_RPut : C1OK Try.prog 39 kRPut := C1OK.mby (by kernel_rfl) (fun d h => calls_RPut d.1.1 d.2.1 d.2.2.1 h.1 h.2) (fun _ _ => Nat.le_refl _)
end Go.Pg
namespace Go.Pg
open Go Go.Proofs

/-! ### What a yank, a cut does beside the unnamed register -/
abbrev hCaps : HL (RgV × (Rgs × Unit) × Unit) := hCons (hBox 52 2 (hP (.ag [none, some 1]) cRgV)) (hCons (hBox 58 1 hFile) hNil)
abbrev capsH (r : RgV) (l : Rgs) : AH := [.arr 52 2 [aRg r], .arr 58 1 [.ptr 2 1 1 0 0], .arr 92 1 [.agg [.mp 3]], .mp (encE cByte cRgV l)]
theorem setE_lit (k : Nat) (hk : k < 256) (a : Int) (s : LsR) (l : Rgs) : setE (.int .u8 (k : Int)) (.agg [.int .i64 a, .sl 1 (s.map .str)]) (encE cByte cRgV l) = encE cByte cRgV (upd (UInt8.ofNat k) (a, s) l) := by
  have h := setE_rg (UInt8.ofNat k) a s l
  rw [UInt8.toNat_ofNat', Nat.mod_eq_of_lt (by omega)] at h
  exact h

set_option maxRecDepth 20000 in
set_option maxHeartbeats 4000000 in
theorem calls_Yank1 (r : RgV) (l : Rgs) (hr : r.2.length ≤ 4398046511104) : CallsR Try.prog 55 [.ptr 0 2 1 0 0, .ptr 1 1 1 0 0] (capsH r l) (.tuple []) (capsH r (upd 48 r l)) := by
  refine callsR_of (mrg := true) (dyn := []) (CtrOK.cons ok_RgClone (CtrOK.nil _)) mixed Try.func55 rfl (by simp [Try.ntmps55]) (by kernel_rfl) ?_
  rw [show Try.f55.results.toList = [] from by kernel_rfl]
  obtain ⟨rk, rl⟩ := r
  have hr : rl.length ≤ 4398046511104 := hr
  have hse : setE (.int .u8 48) (.agg [.int .i64 rk, .sl 1 (rl.map .str)]) (encE cByte cRgV l) = encE cByte cRgV (upd 48 (rk, rl) l) := setE_rg 48 rk rl l
  simp (maxSteps := 4000000) only [↓wpA_H, ↓wpH_region, bselH_false, runH_nil, runH_cons, gw, gselH_plain, ↓chk, justK, noW, ↓oneK, ↓pureK, ↓heapK, envOf, ↓stepEv, opnd, Pg.look, Bool.and_true, Bool.false_eq_true, implies_true, true_and, and_true, valV, heapV, footV, alives, aliveO, nxtQ, hdS, pairsA, frzA, closeQ_nil, closeQ_succ, diagQ_zero, diagQ_succ, Nat.reduceAdd, ofV, ofLeaf, retA, resK, tupA, subA, subQ, ptrsE, pairsO, frzO, subF, subG, pickOf, assocN, pairsE, pairsC, pairsL, pairs0, frzE, frzC, frzL, frz0, frzH, Pg.freeze, List.foldl_nil, subOs, subO, subEv, subV_succ, subM, subL, ldCells, objAt, ↓callT, callC, callV, callH, normArgs, normA, normC, normL, resL, res8_eq, res_succ, resM, shiftR, shift1, AV.cells, TK.cells, AV.pureLeaf, AV.pureB, List.getElem?_cons_succ, List.getElem?_cons_zero, Option.getD_some, reduceCtorEq, Nat.reduceEqDiff, Nat.reduceAdd, Nat.reduceLT, List.nil_append, List.append_nil, List.cons_append, List.length_cons, List.length_nil, List.map_cons, List.map_nil, List.set_cons_zero, List.set_cons_succ, Nat.zero_add, ite_true, ite_false, Option.some.injEq, Option.isSome_none, List.all_cons, List.all_nil, Bool.and_self, and_self, exists_eq_left', cInt_dec, cSl_dec, cAgg_dec, lOne_dec, lCons_dec, dec2_some, List.contains_nil, beq_self_eq_true, List.range'_zero, decL_str, C1by_ns, C1by_pre, C1by_r, C1by_H, optP_some, optV_some, optH_some, List.getD_cons_zero, cutL, List.drop_zero, List.take_succ_cons, Nat.add_zero, Nat.sub_zero, Nat.le_refl, List.take_nil, Nat.zero_lt_succ, C1by_it, regH_none, isNext, nextF, nextG, selC_true, pureC, ↓msel, muC, ↓callP, C1by_mu, keys_byte, ↓mapK, isKeyA, kdT, tk52, dz52, tk58, dz58, tk90, mt90, tk92, dz92, kRgClone, hse, hr]
  (repeat' first | exact rfl | apply And.intro | exact subX_eq rfl (pureB_bytes _) | exact subX_eq rfl (pureB_aPs _) | exact subX_eq rfl rfl | decide | omega | apply subX_one)
  all_goals try simp (maxSteps := 4000000) only [subL]
def kYank1 : C1 := C1.mby hCaps (fun d => d.1.2.length ≤ 4398046511104) (fun _ => .tuple []) (fun d => capsH d.1 (upd 48 d.1 d.2.1.1))
theorem ok_Yank1 : C1OK Try.prog 55 kYank1 := C1OK.mby (by kernel_rfl) (fun d h => calls_Yank1 d.1 d.2.1.1 h) (fun _ _ => Nat.le_refl _)

/-- Registers 1 to 8 go down by one. -/
def shR : Nat → Rgs → Rgs
  | 0, l => l
  | k + 1, l => shR k (match look1 (UInt8.ofNat (49 + k)) l with
    | some w => upd (UInt8.ofNat (49 + (k + 1))) w l
    | none => l)
def cutR (r : RgV) (l : Rgs) : Rgs := if (r.1 != 1 && decide ((r.2.length : Int) ≤ 1)) = true then upd 45 r l else upd 49 r (shR 8 l)

set_option maxRecDepth 20000 in
set_option maxHeartbeats 4000000 in
theorem calls_Cut1 (r : RgV) (l : Rgs) (hr : r.2.length ≤ 4398046511104) : CallsR Try.prog 53 [.ptr 0 2 1 0 0, .ptr 1 1 1 0 0] (capsH r l) (.tuple []) (capsH r (cutR r l)) := by
  refine callsR_of (mrg := true) (dyn := []) (CtrOK.cons ok_RgClone (CtrOK.nil _)) mixed Try.func53 rfl (by simp [Try.ntmps53]) (by kernel_rfl) ?_
  rw [show Try.f53.results.toList = [] from by kernel_rfl]
  obtain ⟨rk, rl⟩ := r
  have hr : rl.length ≤ 4398046511104 := hr
  cases hc : (rk != 1 && decide ((rl.length : Int) ≤ 1)) with
  | true =>
    have hcu : cutR (rk, rl) l = upd 45 (rk, rl) l := if_pos hc
    have hse : setE (.int .u8 45) (.agg [.int .i64 rk, .sl 1 (rl.map .str)]) (encE cByte cRgV l) = encE cByte cRgV (upd 45 (rk, rl) l) := setE_rg 45 rk rl l
    rw [hcu]
    simp (maxSteps := 4000000) only [↓wpA_H, ↓wpH_ret, ↓wpH_seq, ↓wpH_cond, ↓wpH_region, ↓iselH_true, bselH_false, runH_nil, runH_cons, gw, gselH_plain, gselH_if, kselH_1, cselH_bool, gkind, ↓chk, justK, noW, ↓oneK, ↓pureK, ↓heapK, envOf, ↓thenA_normal, ↓thenA_ret, ↓stepEv, opnd, Pg.look, binK, intOp, dstOf, Bool.and_true, Bool.false_eq_true, implies_true, imp_self, true_and, and_true, pickC, pickV, unc, gof, mux, mergeK, condsL, valV, heapV, footV, binV, intV, alives, aliveO, nxtQ, hdS, pairsA, frzA, closeQ_nil, closeQ_succ, diagQ_zero, diagQ_succ, Nat.reduceAdd, mergeable, look_stripE, ofV, ofLeaf, sameK, retA, resK, tupA, subA, subQ, ptrsE, pairsO, frzO, subF, subG, pickOf, assocN, pairsE, pairsC, pairsL, pairs0, frzE, frzC, frzL, frz0, frzH, Pg.freeze, List.foldl_nil, subOs, subO, subEv, subV_succ, subM, subL, slen, ldCells, objAt, ↓callT, callC, callV, callH, normArgs, normA, normC, normL, resL, res8_eq, res_succ, resM, shiftR, shift1, AV.cells, TK.cells, AV.pureLeaf, AV.pureB, Op.operands, Call.operands, Array.toList_append, List.getElem?_toArray, List.getElem?_cons_succ, List.getElem?_cons_zero, Option.bind_some, Option.getD_some, reduceCtorEq, Nat.reduceEqDiff, Nat.reduceAdd, Nat.reduceLT, List.nil_append, List.append_nil, List.cons_append, List.length_cons, List.length_nil, List.map_cons, List.map_nil, List.set_cons_zero, List.set_cons_succ, Nat.zero_add, ite_true, ite_false, Option.some.injEq, Option.isSome_none, AV.int.injEq, Bool.if_false_right, Bool.decide_eq_true, List.all_cons, List.all_nil, Bool.and_self, and_self, exists_eq_left', List.length_map, cInt_dec, List.toList_toArray, cSl_dec, cAgg_dec, lOne_dec, lCons_dec, dec2_some, List.contains_nil, beq_self_eq_true, List.range'_zero, decL_str, C1by_ns, C1by_pre, C1by_r, C1by_H, optP_some, optV_some, optH_some, List.getD_cons_zero, cutL, List.drop_zero, List.take_succ_cons, Nat.add_zero, Nat.sub_zero, Nat.le_refl, List.take_nil, Nat.zero_lt_succ, C1by_it, regH_none, isNext, nextF, nextG, selC_true, selC_false, pureC, ↓msel, muC, ↓callP, C1by_mu, keys_byte, ↓mapK, isKeyA, kdT, tk3, tk50, tk52, dz52, tk58, dz58, tk90, mt90, tk92, dz92, kRgClone, hse, hr, hc]
    (repeat' first | exact rfl | apply And.intro | exact subX_eq rfl (pureB_bytes _) | exact subX_eq rfl (pureB_aPs _) | exact subX_eq rfl rfl | decide | omega | apply subX_one)
    all_goals try simp (maxSteps := 4000000) only [subL]
  | false =>
    have hcu : cutR (rk, rl) l = upd 49 (rk, rl) (shR 8 l) := if_neg (by rw [hc]; simp)
    rw [hcu]
    simp (maxSteps := 4000000) only [↓wpA_H, ↓wpH_skip, ↓wpH_seq, ↓wpH_cond, ↓wpH_block, ↓wpH_loop, ↓wpH_region, ↓iselH_false, bselH_false, runH_nil, runH_cons, gw, gselH_plain, gselH_if, kselH_1, cselH_bool, gkind, ↓chk, justK, noW, ↓oneK, ↓pureK, ↓heapK, envOf, ↓thenA_normal, ↓stepEv, opnd, Pg.look, binK, intOp, dstOf, Bool.false_eq_true, implies_true, imp_self, true_and, and_true, pickC, pickV, unc, gof, mux, mergeK, condsL, valV, heapV, footV, binV, intV, Nat.reduceAdd, mergeable, look_stripE, ofV, ofLeaf, sameK, slen, ldCells, objAt, AV.cells, TK.cells, Op.operands, Call.operands, Array.toList_append, List.getElem?_toArray, List.getElem?_cons_succ, List.getElem?_cons_zero, Option.bind_some, Option.getD_some, reduceCtorEq, Nat.reduceEqDiff, Nat.reduceAdd, List.nil_append, List.length_cons, List.length_nil, Nat.zero_add, ite_true, ite_false, Option.some.injEq, AV.int.injEq, Bool.if_false_right, Bool.decide_eq_true, Bool.and_self, and_self, exists_eq_left', List.length_map, List.toList_toArray, List.contains_nil, List.getD_cons_zero, Nat.add_zero, Nat.zero_lt_succ, regH_none, isNext, nextF, nextG, selC_false, tk3, tk50, tk52, dz52, kRgClone, hc]
    refine loopH_intro (α := Nat × Rgs) (fun x => ([(2, .int .u8 ((49 + x.1 : Nat) : Int)), (0, .ptr 0 2 1 0 0), (1, .ptr 1 1 1 0 0)], capsH (rk, rl) x.2)) (fun x => x.1 ≤ 8 ∧ shR x.1 x.2 = shR 8 l) (fun x => x.1) (8, l) ⟨Nat.le_refl _, rfl⟩ ?_ ?_
    · simp (maxSteps := 4000000) only [Pg.look, Bool.and_true, Bool.false_eq_true, true_and, and_true, alives, aliveO, nxtQ, hdS, pairsA, frzA, closeQ_nil, closeQ_succ, diagQ_zero, diagQ_succ, Nat.reduceAdd, subA, subQ, ptrsE, pairsO, frzO, subF, subG, pickOf, assocN, pairsE, pairsC, pairsL, pairs0, frzE, frzC, frzL, frz0, frzH, Pg.freeze, List.foldl_nil, subOs, subO, subEv, subV_succ, subM, AV.cells, AV.pureLeaf, AV.pureB, List.getElem?_cons_succ, List.getElem?_cons_zero, reduceCtorEq, Nat.reduceEqDiff, Nat.reduceAdd, Nat.reduceLT, List.nil_append, List.append_nil, List.cons_append, Nat.zero_add, ite_true, ite_false, List.all_cons, List.all_nil, Bool.and_self, and_self, Int.cast_ofNat_Int, Nat.zero_lt_succ]
      (repeat' first | exact rfl | apply And.intro | exact subX_eq rfl (pureB_bytes _) | exact subX_eq rfl (pureB_aPs _) | exact subX_eq rfl rfl | decide | omega | apply subX_one)
      all_goals try simp (maxSteps := 4000000) only [subL]
    rintro ⟨k, m⟩ ⟨gk, gm⟩
    have hk : k ≤ 8 := gk
    have hm : shR k m = shR 8 l := gm
    clear gk gm
    cases k with
    | zero =>
      have hc2 : decide ((49 : Int) > 49) = false := rfl
      have hm : m = shR 8 l := hm
      have hse : setE (.int .u8 49) (.agg [.int .i64 rk, .sl 1 (rl.map .str)]) (encE cByte cRgV m) = encE cByte cRgV (upd 49 (rk, rl) m) := setE_rg 49 rk rl m
      simp (maxSteps := 4000000) only [↓wpA_H, ↓wpH_exit, ↓wpH_seq, ↓wpH_cond, ↓wpH_region, ↓iselH_false, bselH_false, runH_nil, runH_cons, gw, gselH_plain, cselH_bool, ↓chk, justK, noW, ↓oneK, ↓pureK, ↓heapK, ↓thenA_normal, ↓thenA_exit, ↓blockA_exit, ↓stepEv, opnd, Pg.look, binK, intOp, Bool.and_true, Bool.false_eq_true, implies_true, true_and, and_true, valV, heapV, footV, binV, intV, alives, aliveO, nxtQ, hdS, pairsA, frzA, closeQ_nil, closeQ_succ, diagQ_zero, diagQ_succ, Nat.reduceAdd, ofV, ofLeaf, retA, resK, tupA, subA, subQ, ptrsE, pairsO, frzO, subF, subG, pickOf, assocN, pairsE, pairsC, pairsL, pairs0, frzE, frzC, frzL, frz0, frzH, Pg.freeze, List.foldl_nil, subOs, subO, subEv, subV_succ, subM, subL, ldCells, objAt, ↓callT, callC, callV, callH, normArgs, normA, normC, normL, resL, res8_eq, res_succ, resM, shiftR, shift1, AV.cells, TK.cells, AV.pureLeaf, AV.pureB, List.getElem?_cons_succ, List.getElem?_cons_zero, Option.getD_some, reduceCtorEq, Nat.reduceEqDiff, Nat.reduceAdd, Nat.reduceLT, List.nil_append, List.append_nil, List.cons_append, List.length_cons, List.length_nil, List.map_cons, List.map_nil, List.set_cons_zero, List.set_cons_succ, Nat.zero_add, ite_true, ite_false, Option.some.injEq, Option.isSome_none, List.all_cons, List.all_nil, Bool.and_self, and_self, exists_eq_left', cInt_dec, cSl_dec, cAgg_dec, lOne_dec, lCons_dec, dec2_some, List.contains_nil, beq_self_eq_true, Int.cast_ofNat_Int, List.range'_zero, decL_str, C1by_ns, C1by_pre, C1by_r, C1by_H, optP_some, optV_some, optH_some, List.getD_cons_zero, cutL, List.drop_zero, List.take_succ_cons, Nat.add_zero, Nat.sub_zero, Nat.le_refl, List.take_nil, Nat.zero_lt_succ, C1by_it, regH_none, isNext, nextF, nextG, selC_true, selC_false, pureC, ↓msel, muC, ↓callP, C1by_mu, keys_byte, ↓mapK, isKeyA, kdT, tk52, dz52, tk58, dz58, tk90, mt90, tk92, dz92, kRgClone, hse, hr, hc2]
      rw [← hm]
      (repeat' first | exact rfl | apply And.intro | exact subX_eq rfl (pureB_bytes _) | exact subX_eq rfl (pureB_aPs _) | exact subX_eq rfl rfl | decide | omega | apply subX_one)
      all_goals try simp (maxSteps := 4000000) only [subL]
    | succ k =>
      have hc2 : decide (((49 + (k + 1) : Nat) : Int) > 49) = true := decide_eq_true (by omega)
      have hw : IntKind.u8.wrap (((49 + (k + 1) : Nat) : Int) - 1) = ((49 + k : Nat) : Int) := by
        simp [IntKind.wrap, IntKind.bits, IntKind.signed]; omega
      have hf := findE_byte cRgV (UInt8.ofNat (49 + k)) m
      rw [UInt8.toNat_ofNat', Nat.mod_eq_of_lt (by omega)] at hf
      cases hl : look1 (UInt8.ofNat (49 + k)) m with
      | none =>
        rw [hl] at hf
        have hst : shR (k + 1) m = shR k m := by rw [shR, hl]
        simp (maxSteps := 4000000) only [↓wpA_H, ↓wpH_skip, ↓wpH_seq, ↓wpH_cond, ↓wpH_block, ↓wpH_region, ↓iselH_true, ↓iselH_false, bselH_false, runH_nil, runH_cons, gw, gselH_plain, cselH_bool, ↓chk, justK, noW, ↓oneK, ↓pureK, ↓heapK, ↓thenA_normal, ↓blockA_normal, ↓stepEv, opnd, Pg.look, binK, intOp, Bool.and_true, Bool.false_eq_true, implies_true, true_and, and_true, valV, heapV, footV, binV, intV, alives, aliveO, nxtQ, hdS, pairsA, frzA, closeQ_nil, closeQ_succ, diagQ_zero, diagQ_succ, Nat.reduceAdd, ofV, ofLeaf, subA, subQ, ptrsE, pairsO, frzO, subF, subG, pickOf, assocN, pairsE, pairsC, pairsL, pairs0, frzE, frzC, frzL, frz0, frzH, Pg.freeze, List.foldl_nil, subOs, subO, subEv, subV_succ, subM, ldCells, objAt, AV.cells, TK.cells, AV.definite, AV.leaf, AV.leafy, AV.pureLeaf, AV.pureB, putCells, lay, List.getElem?_cons_succ, List.getElem?_cons_zero, Option.map_none, Option.getD_some, Option.getD_none, reduceCtorEq, Nat.reduceEqDiff, Nat.reduceAdd, Nat.reduceLT, List.nil_append, List.append_nil, List.cons_append, List.length_cons, List.length_nil, List.set_cons_zero, List.set_cons_succ, Nat.zero_add, ite_true, ite_false, Option.some.injEq, Option.isSome_none, List.all_cons, List.all_nil, Bool.and_self, and_self, exists_eq_left', List.contains_nil, beq_self_eq_true, List.getD_cons_zero, List.drop_succ_cons, List.take_zero, Nat.add_zero, Nat.le_refl, List.drop_nil, Nat.zero_lt_succ, regH_none, isNext, nextF, nextG, selC_false, keys_byte, ↓mapK, mapAt, isKeyA, kdT, hasE, lookV, tk52, tz52, dz52, tk58, dz58, tk90, mt90, tk92, dz92, kRgClone, hc2, hw, hf]
        refine ⟨(k, m), ⟨by show k ≤ 8; omega, by rw [← hm, hst]⟩, by show k < k + 1; omega, ?_⟩
        (repeat' first | exact rfl | apply And.intro | exact subX_eq rfl (pureB_bytes _) | exact subX_eq rfl (pureB_aPs _) | exact subX_eq rfl rfl | decide | omega | apply subX_one)
        all_goals try simp (maxSteps := 4000000) only [subL]
      | some w =>
        obtain ⟨wk, wl⟩ := w
        rw [hl] at hf
        have hst : shR (k + 1) m = shR k (upd (UInt8.ofNat (49 + (k + 1))) (wk, wl) m) := by rw [shR, hl]
        have hse := setE_lit (49 + (k + 1)) (by omega) wk wl m
        simp (maxSteps := 4000000) only [↓wpA_H, ↓wpH_skip, ↓wpH_seq, ↓wpH_cond, ↓wpH_block, ↓wpH_region, ↓iselH_true, bselH_false, runH_nil, runH_cons, gw, gselH_plain, cselH_bool, ↓chk, justK, noW, ↓oneK, ↓pureK, ↓heapK, ↓thenA_normal, ↓blockA_normal, ↓stepEv, opnd, Pg.look, binK, intOp, Bool.and_true, Bool.false_eq_true, implies_true, true_and, and_true, valV, heapV, footV, binV, intV, alives, aliveO, nxtQ, hdS, pairsA, frzA, closeQ_nil, closeQ_succ, diagQ_zero, diagQ_succ, Nat.reduceAdd, ofV, ofLeaf, subA, subQ, ptrsE, pairsO, frzO, subF, subG, pickOf, assocN, pairsE, pairsC, pairsL, pairs0, frzE, frzC, frzL, frz0, frzH, Pg.freeze, List.foldl_nil, subOs, subO, subEv, subV_succ, subM, ldCells, objAt, resL, res8_eq, res_succ, resM, AV.cells, TK.cells, AV.definite, AV.leaf, AV.leafy, AV.pureLeaf, AV.pureB, putCells, lay, List.getElem?_cons_succ, List.getElem?_cons_zero, Option.map_some, Option.getD_some, reduceCtorEq, Nat.reduceEqDiff, Nat.reduceAdd, Nat.reduceLT, List.nil_append, List.append_nil, List.cons_append, List.length_cons, List.length_nil, List.set_cons_zero, List.set_cons_succ, Nat.zero_add, ite_true, ite_false, Option.some.injEq, Option.isSome_some, Option.isSome_none, List.all_cons, List.all_nil, Bool.and_self, and_self, exists_eq_left', List.contains_nil, beq_self_eq_true, List.getD_cons_zero, cutL, List.drop_zero, List.drop_succ_cons, List.take_succ_cons, List.take_zero, Nat.add_zero, Nat.sub_zero, Nat.le_refl, List.drop_nil, List.take_nil, Nat.zero_lt_succ, regH_none, isNext, nextF, nextG, selC_true, selC_false, pureC, C1by_mu, keys_byte, ↓mapK, mapAt, isKeyA, kdT, hasE, lookV, tk52, tz52, dz52, tk58, dz58, tk90, mt90, tk92, dz92, kRgClone, hc2, hw, hf, cRgV_enc, hse]
        refine ⟨(k, upd (UInt8.ofNat (49 + (k + 1))) (wk, wl) m), ⟨by show k ≤ 8; omega, by rw [← hm, hst]⟩, by show k < k + 1; omega, ?_⟩
        (repeat' first | exact rfl | apply And.intro | exact subX_eq rfl (pureB_bytes _) | exact subX_eq rfl (pureB_aPs _) | exact subX_eq rfl rfl | decide | omega | apply subX_one)
        all_goals try simp (maxSteps := 4000000) only [subL]
def kCut1 : C1 := C1.mby hCaps (fun d => d.1.2.length ≤ 4398046511104) (fun _ => .tuple []) (fun d => capsH d.1 (cutR d.1 d.2.1.1))
theorem ok_Cut1 : C1OK Try.prog 53 kCut1 := C1OK.mby (by kernel_rfl) (fun d h => calls_Cut1 d.1 d.2.1.1 h) (fun _ _ => Nat.le_refl _)

/-! ### A command's register and the unnamed one -/
def setR (g : RgV → Rgs → Rgs) (l : Rgs) (b : UInt8) (r : RgV) : Int × Rgs :=
  if b = 95 then (0, l)
  else if b ≠ 0 ∧ b ≠ 34 then (if (putR l b r).1 = 0 then (0, upd 34 ((look1 (gname b) (putR l b r).2).getD (0, [])) (putR l b r).2) else putR l b r)
  else if lsz r.2 > 4096 then (21, l) else (0, upd 34 r (g r l))
abbrev setH (r : RgV) (l : Rgs) : AH := [.arr 92 1 [.agg [.mp 1]], .mp (encE cByte cRgV l), .arr 52 2 [aRg r], .arr 58 1 [.ptr 0 1 1 0 0]]
theorem eq_lit (b : UInt8) (n : Nat) (hn : n < 256) : ((b.toNat : Int) == (n : Int)) = (b == UInt8.ofNat n) := by
  have h := byte_eq b (UInt8.ofNat n)
  rw [UInt8.toNat_ofNat', Nat.mod_eq_of_lt (by omega)] at h
  exact h
theorem ne_lit (b : UInt8) (n : Nat) (hn : n < 256) : ((b.toNat : Int) != (n : Int)) = !(b == UInt8.ofNat n) := by
  have h := eq_lit b n hn
  rw [← h]; rfl

set_option maxRecDepth 20000 in
set_option maxHeartbeats 8000000 in
theorem calls_setY (l : Rgs) (b : UInt8) (r : RgV) (hl : stockR l) (hr : okArg r) : CallsR Try.prog 52 [.ptr 0 1 1 0 0, .int .u8 b.toNat, aRg r, .fn 55 [.ptr 2 2 1 0 0, .ptr 3 1 1 0 0]] (setH r l)
    (.int .i64 (setR (upd 48) l b r).1) (setH r (setR (upd 48) l b r).2) := by
  refine callsR_of (mrg := true) (dyn := []) (CtrOK.cons ok_RPut (CtrOK.cons ok_RGet (CtrOK.cons ok_RgSize (CtrOK.cons ok_RgClone (CtrOK.cons ok_Yank1 (CtrOK.nil _)))))) mixed Try.func52 rfl (by simp [Try.ntmps52]) (by kernel_rfl) ?_
  rw [show Try.f52.results.toList = [.tmp 8] from by kernel_rfl]
  have hrl : r.2.length ≤ 4398046511104 := by have := hr.1; omega
  have hrf := okArg_fit hr
  have c95 : ((b.toNat : Int) == 95) = (b == 95) := eq_lit b 95 (by omega)
  have c0 : ((b.toNat : Int) != 0) = !(b == 0) := ne_lit b 0 (by omega)
  have c34 : ((b.toNat : Int) != 34) = !(b == 34) := ne_lit b 34 (by omega)
  unfold setR
  by_cases h95 : b = 95
  · have e95 : (b == 95) = true := beq_iff_eq.2 h95
    rw [if_pos h95]
    simp (maxSteps := 4000000) only [↓wpA_H, ↓wpH_ret, ↓wpH_seq, ↓wpH_cond, ↓wpH_block, ↓wpH_region, ↓iselH_true, bselH_false, runH_nil, runH_cons, gw, gselH_plain, cselH_bool, ↓chk, justK, noW, ↓oneK, ↓pureK, ↓heapK, envOf, ↓thenA_normal, ↓thenA_ret, ↓blockA_ret, ↓stepEv, opnd, Pg.look, binK, intOp, Bool.and_true, Bool.false_eq_true, implies_true, true_and, and_true, valV, heapV, footV, binV, intV, alives, aliveO, nxtQ, hdS, pairsA, frzA, closeQ_nil, closeQ_succ, diagQ_zero, diagQ_succ, Nat.reduceAdd, ofV, ofLeaf, retA, resK, tupA, subA, subQ, ptrsE, pairsO, frzO, subF, subG, pickOf, assocN, pairsE, pairsC, pairsL, pairs0, frzE, frzC, frzL, frz0, frzH, Pg.freeze, List.foldl_nil, subOs, subO, subEv, subV_succ, subM, AV.cells, AV.definite, AV.pureLeaf, AV.pureB, List.getElem?_cons_succ, List.getElem?_cons_zero, reduceCtorEq, Nat.reduceEqDiff, Nat.reduceAdd, Nat.reduceLT, List.nil_append, List.append_nil, List.cons_append, List.length_cons, List.length_nil, Nat.zero_add, ite_true, ite_false, List.all_cons, List.all_nil, Bool.and_self, and_self, List.contains_nil, Nat.zero_lt_succ, regH_none, isNext, nextF, nextG, selC_false, kRPut, kRGet, kRgSize, kRgClone, kYank1, hFile, c95, e95]
    (repeat' first | exact rfl | apply And.intro | exact subX_eq rfl (pureB_bytes _) | exact subX_eq rfl (pureB_aPs _) | exact subX_eq rfl rfl | decide | omega | apply subX_one)
    all_goals try simp (maxSteps := 4000000) only [subL]
  have e95 : (b == 95) = false := beq_eq_false_iff_ne.2 h95
  rw [if_neg h95]
  by_cases hb : b ≠ 0 ∧ b ≠ 34
  · have e0 : (b == 0) = false := beq_eq_false_iff_ne.2 hb.1
    have e34 : (b == 34) = false := beq_eq_false_iff_ne.2 hb.2
    rw [if_pos hb]
    have hps := putR_stock hl b r
    obtain ⟨p, hp⟩ : ∃ p, p = putR l b r := ⟨_, rfl⟩
    rw [← hp] at hps ⊢
    obtain ⟨pe, pl⟩ := p
    have hps : stockR pl := hps
    by_cases hz : pe = 0
    · have ez : (pe != 0) = false := by simp [hz]
      rw [if_pos hz]
      have hlen : ∀ v, look1 (gname b) pl = some v → v.2.length ≤ 4398046511104 := fun v hv => by have := hps _ _ hv; have := lsz_len v.2; omega
      obtain ⟨v, hv⟩ : ∃ v, v = (look1 (gname b) pl).getD (0, []) := ⟨_, rfl⟩
      rw [← hv]
      obtain ⟨vk, vl⟩ := v
      have hse : setE (.int .u8 34) (.agg [.int .i64 vk, .sl 1 (vl.map .str)]) (encE cByte cRgV pl) = encE cByte cRgV (upd 34 (vk, vl) pl) := setE_rg 34 vk vl pl
      subst hz
      simp (maxSteps := 4000000) only [↓wpA_H, ↓wpH_skip, ↓wpH_ret, ↓wpH_seq, ↓wpH_cond, ↓wpH_block, ↓wpH_region, ↓iselH_true, ↓iselH_false, bselH_false, runH_nil, runH_cons, gw, gselH_plain, gselH_if, kselH_1, cselH_bool, gkind, ↓chk, justK, noW, ↓oneK, ↓pureK, ↓heapK, envOf, ↓thenA_normal, ↓thenA_ret, ↓blockA_ret, ↓stepEv, opnd, Pg.look, binK, intOp, dstOf, Bool.and_true, Bool.not_false, Bool.not_true, Bool.false_eq_true, Bool.true_eq_false, implies_true, true_and, and_true, pickC, pickV, unc, gof, mux, mergeK, condsL, valV, heapV, footV, binV, intV, alives, aliveO, nxtQ, hdS, pairsA, frzA, closeQ_nil, closeQ_succ, diagQ_zero, diagQ_succ, Nat.reduceAdd, mergeable, look_stripE, ofV, ofLeaf, sameK, retA, resK, tupA, subA, subQ, ptrsE, pairsO, frzO, subF, subG, pickOf, assocN, pairsE, pairsC, pairsL, pairs0, frzE, frzC, frzL, frz0, frzH, Pg.freeze, List.foldl_nil, subOs, subO, subEv, subV_succ, subM, ldCells, objAt, ↓callT, normA, normC, normL, resL, res8_eq, res_succ, resM, AV.cells, TK.cells, AV.definite, AV.leaf, AV.leafy, AV.pureLeaf, AV.pureB, putCells, lay, Op.operands, List.getElem?_toArray, List.getElem?_cons_succ, List.getElem?_cons_zero, Option.bind_some, Option.getD_some, reduceCtorEq, Nat.reduceEqDiff, Nat.reduceAdd, Nat.reduceLT, Nat.reduceSub, List.nil_append, List.append_nil, List.cons_append, List.length_cons, List.length_nil, List.map_cons, List.map_nil, List.set_cons_zero, List.set_cons_succ, Nat.zero_add, ite_true, ite_false, Option.some.injEq, Option.isSome_some, Option.isSome_none, List.all_cons, List.all_nil, Bool.and_self, and_self, exists_eq_left', cInt_dec, List.toList_toArray, cByte_dec, cSl_dec, cAgg_dec, lOne_dec, lCons_dec, dec2_some, List.contains_cons, List.contains_nil, Nat.reduceBEq, Bool.or_self, beq_self_eq_true, List.range'_zero, bne_self_eq_false, decL_str, List.getD_cons_zero, List.getD_cons_succ, cutL, List.drop_zero, List.drop_succ_cons, List.take_succ_cons, List.take_zero, Nat.add_zero, Nat.sub_zero, Nat.sub_self, Nat.le_refl, List.drop_nil, List.take_nil, Nat.zero_lt_succ, regH_none, isNext, nextF, nextG, selC_true, selC_false, pureC, ↓msel, muC, ↓callU, ↓callUV, ↓callUH, ↓callUF, C1by_mu, C1mby_mu, runM_eq, mkM_some, hNil_dec, hCons_dec, app3_some, hP_dec, hP1_some, hP2_some, hO1_some, hM1_mp, hMp_dec, hB1_some, hB2_arr, hBox_dec, hAgg_dec, keys_byte, pickF, nodupB, somes, fresh, gids, gid, putO, ren, renL, renO, ↓mapK, isKeyA, kdT, tk52, tz52, dz52, tk90, mt90, tk92, dz92, kRPut, kRGet, kRgSize, kRgClone, kYank1, hFile, decE_rg, rgH, c95, e95, c0, e0, c34, e34, ← hp, ← hv, hse]
      refine ⟨⟨hl, hr⟩, hlen, ?_⟩
      (repeat' first | exact rfl | apply And.intro | exact subX_eq rfl (pureB_bytes _) | exact subX_eq rfl (pureB_aPs _) | exact subX_eq rfl rfl | decide | omega | apply subX_one)
      all_goals try simp (maxSteps := 4000000) only [subL]
    · have ez : (pe != 0) = true := by simp [hz]
      rw [if_neg hz]
      simp (maxSteps := 4000000) only [↓wpA_H, ↓wpH_ret, ↓wpH_seq, ↓wpH_cond, ↓wpH_block, ↓wpH_region, ↓iselH_true, ↓iselH_false, bselH_false, runH_nil, runH_cons, gw, gselH_plain, gselH_if, kselH_1, cselH_bool, gkind, ↓chk, justK, noW, ↓oneK, ↓pureK, ↓heapK, envOf, ↓thenA_normal, ↓thenA_ret, ↓blockA_ret, ↓stepEv, opnd, Pg.look, binK, intOp, dstOf, Bool.and_true, Bool.not_false, Bool.not_true, Bool.false_eq_true, Bool.true_eq_false, implies_true, true_and, and_true, pickC, pickV, unc, gof, mux, mergeK, condsL, valV, heapV, footV, binV, intV, alives, aliveO, nxtQ, hdS, pairsA, frzA, closeQ_nil, closeQ_succ, diagQ_zero, diagQ_succ, Nat.reduceAdd, mergeable, look_stripE, ofV, ofLeaf, sameK, retA, resK, tupA, subA, subQ, ptrsE, pairsO, frzO, subF, subG, pickOf, assocN, pairsE, pairsC, pairsL, pairs0, frzE, frzC, frzL, frz0, frzH, Pg.freeze, List.foldl_nil, subOs, subO, subEv, subV_succ, subM, ldCells, objAt, ↓callT, normA, normC, normL, resL, res8_eq, res_succ, resM, AV.cells, TK.cells, AV.definite, AV.pureLeaf, AV.pureB, Op.operands, List.getElem?_toArray, List.getElem?_cons_succ, List.getElem?_cons_zero, Option.bind_some, Option.getD_some, reduceCtorEq, Nat.reduceEqDiff, Nat.reduceAdd, Nat.reduceLT, Nat.reduceSub, List.nil_append, List.append_nil, List.cons_append, List.length_cons, List.length_nil, List.map_cons, List.map_nil, List.set_cons_zero, List.set_cons_succ, Nat.zero_add, ite_true, ite_false, Option.some.injEq, List.all_cons, List.all_nil, Bool.and_self, and_self, exists_eq_left', cInt_dec, List.toList_toArray, cByte_dec, cSl_dec, cAgg_dec, lOne_dec, lCons_dec, dec2_some, List.contains_cons, List.contains_nil, Nat.reduceBEq, Bool.or_self, List.range'_zero, decL_str, List.getD_cons_zero, List.getD_cons_succ, cutL, List.drop_zero, List.take_succ_cons, Nat.sub_zero, Nat.sub_self, Nat.le_refl, List.take_nil, Nat.zero_lt_succ, regH_none, isNext, nextF, nextG, selC_false, ↓msel, muC, ↓callU, ↓callUV, ↓callUH, ↓callUF, C1by_mu, C1mby_mu, runM_eq, mkM_some, hNil_dec, hCons_dec, app3_some, hP_dec, hP1_some, hP2_some, hO1_some, hM1_mp, hMp_dec, hB1_some, hB2_arr, hBox_dec, hAgg_dec, pickF, nodupB, somes, fresh, gids, gid, putO, ren, renL, renO, tk52, dz52, kRPut, kRGet, kRgSize, kRgClone, kYank1, hFile, decE_rg, rgH, c95, e95, c0, e0, c34, e34, ← hp, ez]
      refine ⟨⟨hl, hr⟩, ?_⟩
      (repeat' first | exact rfl | apply And.intro | exact subX_eq rfl (pureB_bytes _) | exact subX_eq rfl (pureB_aPs _) | exact subX_eq rfl rfl | decide | omega | apply subX_one)
      all_goals try simp (maxSteps := 4000000) only [subL]
  · have e34 : (b == 0) = false → (b == 34) = true := fun h => by
      rw [beq_eq_false_iff_ne] at h
      rw [beq_iff_eq]
      exact Classical.byContradiction fun h2 => hb ⟨h, h2⟩
    have ec : ((b.toNat : Int) != 0 && (b.toNat : Int) != 34) = false := by
      rw [c0, c34]
      cases hx : (b == 0) with
      | true => rfl
      | false => rw [e34 hx]; rfl
    rw [if_neg hb]
    by_cases hz : lsz r.2 > 4096
    · have cz : decide (lsz r.2 > 4096) = true := decide_eq_true hz
      rw [if_pos hz]
      simp (maxSteps := 4000000) only [↓wpA_H, ↓wpH_ret, ↓wpH_seq, ↓wpH_cond, ↓wpH_block, ↓wpH_region, ↓iselH_true, ↓iselH_false, bselH_false, runH_nil, runH_cons, gw, gselH_plain, gselH_if, kselH_1, cselH_bool, gkind, ↓chk, justK, noW, ↓oneK, ↓pureK, ↓heapK, envOf, ↓thenA_normal, ↓thenA_ret, ↓blockA_ret, ↓stepEv, opnd, Pg.look, binK, intOp, dstOf, Bool.and_true, Bool.false_eq_true, false_implies, implies_true, imp_self, true_and, and_true, pickC, pickV, unc, gof, mux, mergeK, condsL, valV, heapV, footV, binV, intV, alives, aliveO, nxtQ, hdS, pairsA, frzA, closeQ_nil, closeQ_succ, diagQ_zero, diagQ_succ, Nat.reduceAdd, mergeable, look_stripE, ofV, ofLeaf, sameK, retA, resK, tupA, subA, subQ, ptrsE, pairsO, frzO, subF, subG, pickOf, assocN, pairsE, pairsC, pairsL, pairs0, frzE, frzC, frzL, frz0, frzH, Pg.freeze, List.foldl_nil, subOs, subO, subEv, subV_succ, subM, ldCells, objAt, ↓callT, callC, callV, callH, normArgs, normA, normC, normL, resL, res8_eq, res_succ, resM, shiftR, shift1, AV.cells, TK.cells, AV.definite, AV.pureLeaf, AV.pureB, Op.operands, List.getElem?_toArray, List.getElem?_cons_succ, List.getElem?_cons_zero, Option.bind_some, Option.getD_some, reduceCtorEq, Nat.reduceEqDiff, Nat.reduceAdd, Nat.reduceLT, List.nil_append, List.append_nil, List.cons_append, List.length_cons, List.length_nil, List.map_cons, List.map_nil, Nat.zero_add, ite_true, ite_false, Option.some.injEq, Prod.mk.injEq, Bool.if_false_right, Bool.decide_eq_true, List.all_cons, List.all_nil, Bool.and_self, and_self, exists_eq_left', cInt_dec, List.toList_toArray, cSl_dec, cAgg_dec, lOne_dec, lCons_dec, dec2_some, List.contains_nil, List.range'_zero, decL_str, C1by_ns, C1by_pre, C1by_r, C1by_H, optP_some, optV_some, optH_some, List.getD_cons_zero, cutL, List.drop_zero, List.take_succ_cons, Nat.sub_zero, Nat.le_refl, List.take_nil, Nat.zero_lt_succ, C1by_it, regH_none, isNext, nextF, nextG, selC_false, ↓msel, muC, ↓callP, C1by_mu, C1mby_mu, tk52, dz52, kRPut, kRGet, kRgSize, kRgClone, kYank1, hFile, rgH, c95, e95, ec, cz]
      refine ⟨hrf, ?_⟩
      (repeat' first | exact rfl | apply And.intro | exact subX_eq rfl (pureB_bytes _) | exact subX_eq rfl (pureB_aPs _) | exact subX_eq rfl rfl | decide | omega | apply subX_one)
      all_goals try simp (maxSteps := 4000000) only [subL]
    · have cz : decide (lsz r.2 > 4096) = false := decide_eq_false hz
      rw [if_neg hz]
      have hse : ∀ m : Rgs, setE (.int .u8 34) (.agg [.int .i64 r.1, .sl 1 (r.2.map .str)]) (encE cByte cRgV m) = encE cByte cRgV (upd 34 r m) := fun m => setE_rg 34 r.1 r.2 m
      simp (maxSteps := 4000000) only [↓wpA_H, ↓wpH_skip, ↓wpH_ret, ↓wpH_seq, ↓wpH_cond, ↓wpH_block, ↓wpH_region, ↓iselH_false, bselH_false, runH_nil, runH_cons, gw, gselH_plain, gselH_if, kselH_1, cselH_bool, gkind, ↓chk, justK, noW, ↓oneK, ↓pureK, ↓heapK, envOf, ↓thenA_normal, ↓blockA_normal, ↓stepEv, opnd, Pg.look, binK, intOp, dstOf, Bool.and_true, Bool.not_false, Bool.false_eq_true, false_implies, implies_true, imp_self, true_and, and_true, pickC, pickV, unc, gof, mux, mergeK, condsL, valV, heapV, footV, binV, intV, alives, aliveO, nxtQ, hdS, pairsA, frzA, closeQ_nil, closeQ_succ, diagQ_zero, diagQ_succ, Nat.reduceAdd, mergeable, look_stripE, ofV, ofLeaf, sameK, retA, resK, tupA, subA, subQ, ptrsE, pairsO, frzO, subF, subG, pickOf, assocN, pairsE, pairsC, pairsL, pairs0, frzE, frzC, frzL, frz0, frzH, Pg.freeze, List.foldl_nil, subOs, subO, subEv, subV_succ, subM, ldCells, objAt, ↓callT, callC, callV, callH, normArgs, normA, normC, normL, resL, res8_eq, res_succ, resM, shiftR, shift1, AV.cells, TK.cells, AV.definite, AV.pureLeaf, AV.pureB, Op.operands, List.getElem?_toArray, List.getElem?_cons_succ, List.getElem?_cons_zero, Option.bind_some, Option.getD_some, reduceCtorEq, Nat.reduceEqDiff, Nat.reduceAdd, Nat.reduceLT, Nat.reduceSub, List.nil_append, List.append_nil, List.cons_append, List.length_cons, List.length_nil, List.map_cons, List.map_nil, List.set_cons_zero, List.set_cons_succ, Nat.zero_add, ite_true, ite_false, Option.some.injEq, Option.isSome_some, Option.isSome_none, Prod.mk.injEq, Bool.if_false_right, Bool.decide_eq_true, List.all_cons, List.all_nil, Bool.and_self, and_self, exists_eq_left', cInt_dec, List.toList_toArray, cSl_dec, cAgg_dec, lOne_dec, lCons_dec, dec2_some, List.contains_cons, List.contains_nil, Nat.reduceBEq, Bool.or_self, beq_self_eq_true, List.range'_zero, decL_str, C1by_ns, C1by_pre, C1by_r, C1by_H, optP_some, optV_some, optH_some, List.getD_cons_zero, List.getD_cons_succ, cutL, List.drop_zero, List.take_succ_cons, Nat.add_zero, Nat.sub_zero, Nat.sub_self, Nat.le_refl, List.take_nil, Nat.zero_lt_succ, C1by_it, regH_none, isNext, nextF, nextG, selC_true, selC_false, pureC, ↓msel, muC, ↓callP, ↓callU, ↓callUV, ↓callUH, ↓callUF, C1by_mu, C1mby_mu, runM_eq, mkM_some, hNil_dec, hCons_dec, app3_some, hP_dec, hP1_some, hP2_some, hO1_some, hM1_mp, hMp_dec, hB1_some, hB2_arr, hBox_dec, hAgg_dec, keys_byte, pickF, nodupB, somes, fresh, gids, gid, putO, ren, renL, renO, ↓mapK, isKeyA, kdT, tk52, dz52, tk90, mt90, tk92, dz92, kRPut, kRGet, kRgSize, kRgClone, kYank1, hFile, decE_rg, rgH, c95, e95, ec, cz, hrl, hse]
      refine ⟨hrf, ?_⟩
      (repeat' first | exact rfl | apply And.intro | exact subX_eq rfl (pureB_bytes _) | exact subX_eq rfl (pureB_aPs _) | exact subX_eq rfl rfl | decide | omega | apply subX_one)
      all_goals try simp (maxSteps := 4000000) only [subL]
def kSetY : C1 := C1.mby (hSelf 55 58 hFile (hP .id cByte) (hP (.ag [none, some 1]) cRgV) (hBox 52 2 (hP (.ag [none, some 1]) cRgV)))
  (fun d => d.2.2.2.1 = d.2.2.1 ∧ stockR d.1.1 ∧ okArg d.2.2.1) (fun d => .int .i64 (setR (upd 48) d.1.1 d.2.1 d.2.2.1).1) (fun d => setH d.2.2.1 (setR (upd 48) d.1.1 d.2.1 d.2.2.1).2)
theorem ok_setY : C1OK Try.prog 52 kSetY := C1OK.mby (by kernel_rfl) (fun d h => by
  obtain ⟨⟨l, u⟩, b, r, r', u2⟩ := d
  obtain ⟨h1, h2, h3⟩ := h
  have h1 : r' = r := h1
  subst h1
  exact calls_setY l b r' h2 h3) (fun _ _ => Nat.le_refl _)

set_option maxRecDepth 20000 in
set_option maxHeartbeats 8000000 in
theorem calls_RYank (l : Rgs) (b : UInt8) (r : RgV) (hl : stockR l) (hr : okArg r) : CallsR Try.prog 37 [.ptr 0 1 1 0 0, .int .u8 b.toNat, aRg r] (rgH l)
    (.int .i64 (setR (upd 48) l b r).1) (rgH (setR (upd 48) l b r).2) := by
  refine callsR_of (mrg := true) (dyn := []) (CtrOK.cons ok_setY (CtrOK.nil _)) mixed Try.func37 rfl (by simp [Try.ntmps37]) (by kernel_rfl) ?_
  rw [show Try.f37.results.toList = [.tmp 6] from by kernel_rfl]
  simp (maxSteps := 4000000) only [↓wpA_H, ↓wpH_ret, ↓wpH_seq, ↓wpH_region, bselH_false, runH_nil, runH_cons, gw, gselH_plain, ↓chk, justK, noW, ↓oneK, ↓pureK, ↓heapK, envOf, ↓thenA_normal, ↓stepEv, opnd, Pg.look, Bool.and_true, Bool.not_false, Bool.false_eq_true, implies_true, true_and, and_true, valV, heapV, footV, alives, aliveO, nxtQ, hdS, pairsA, frzA, closeQ_nil, closeQ_succ, diagQ_zero, diagQ_succ, Nat.reduceAdd, ofV, ofLeaf, retA, resK, tupA, subA, subQ, ptrsE, pairsO, frzO, subF, subG, pickOf, assocN, pairsE, pairsC, pairsL, pairs0, frzE, frzC, frzL, frz0, frzH, Pg.freeze, List.foldl_nil, subOs, subO, subEv, subV_succ, subM, ldCells, objAt, ↓callT, normA, normC, normL, resL, res8_eq, res_succ, resM, AV.cells, TK.cells, AV.definite, AV.pureLeaf, AV.pureB, List.getElem?_cons_succ, List.getElem?_cons_zero, Option.getD_some, reduceCtorEq, Nat.reduceEqDiff, Nat.reduceAdd, Nat.reduceLT, Nat.reduceSub, List.nil_append, List.append_nil, List.cons_append, List.length_cons, List.length_nil, List.map_cons, List.map_nil, List.set_cons_zero, List.set_cons_succ, Nat.zero_add, ite_true, ite_false, Option.some.injEq, List.all_cons, List.all_nil, Bool.and_self, and_self, exists_eq_left', cInt_dec, cByte_dec, cSl_dec, cAgg_dec, lOne_dec, lCons_dec, dec2_some, List.contains_cons, List.contains_nil, Nat.reduceBEq, Bool.or_self, beq_self_eq_true, List.range'_zero, decL_str, List.getD_cons_zero, List.getD_cons_succ, cutL, List.drop_zero, List.take_succ_cons, Nat.sub_zero, Nat.sub_self, Nat.le_refl, List.take_nil, Nat.zero_lt_succ, regH_none, isNext, nextF, nextG, selC_false, ↓msel, muC, ↓callU, ↓callUV, ↓callUH, ↓callUF, C1mby_mu, runM_eq, mkM_some, hNil_dec, hCons_dec, app3_some, hP_dec, hP1_some, hP2_some, hO1_some, hM1_mp, hMp_dec, hB1_some, hB2_arr, hBox_dec, hAgg_dec, pickF, nodupB, somes, fresh, gids, gid, putO, ren, renL, renO, tk52, dz52, tk58, dz58, kSetY, hFile, decE_rg, hSelf_dec, selfB_some, ptrB_ptr]
  refine ⟨⟨hl, hr⟩, ?_⟩
  (repeat' first | exact rfl | apply And.intro | exact subX_eq rfl (pureB_bytes _) | exact subX_eq rfl (pureB_aPs _) | exact subX_eq rfl rfl | decide | omega | apply subX_one)
  all_goals try simp (maxSteps := 4000000) only [subL]
def kRYank : C1 := C1.mby (hCons hFile (hCons (hP .id cByte) (hCons (hP (.ag [none, some 1]) cRgV) hNil))) (fun d => stockR d.1.1 ∧ okArg d.2.2.1)
  (fun d => .int .i64 (setR (upd 48) d.1.1 d.2.1 d.2.2.1).1) (fun d => rgH (setR (upd 48) d.1.1 d.2.1 d.2.2.1).2)
theorem ok_RYank : C1OK Try.prog 37 kRYank := C1OK.mby (by kernel_rfl) (fun d h => calls_RYank d.1.1 d.2.1 d.2.2.1 h.1 h.2) (fun _ _ => Nat.le_refl _)

set_option maxRecDepth 20000 in
set_option maxHeartbeats 8000000 in
theorem calls_setC (l : Rgs) (b : UInt8) (r : RgV) (hl : stockR l) (hr : okArg r) : CallsR Try.prog 52 [.ptr 0 1 1 0 0, .int .u8 b.toNat, aRg r, .fn 53 [.ptr 2 2 1 0 0, .ptr 3 1 1 0 0]] (setH r l)
    (.int .i64 (setR cutR l b r).1) (setH r (setR cutR l b r).2) := by
  refine callsR_of (mrg := true) (dyn := []) (CtrOK.cons ok_RPut (CtrOK.cons ok_RGet (CtrOK.cons ok_RgSize (CtrOK.cons ok_RgClone (CtrOK.cons ok_Cut1 (CtrOK.nil _)))))) mixed Try.func52 rfl (by simp [Try.ntmps52]) (by kernel_rfl) ?_
  rw [show Try.f52.results.toList = [.tmp 8] from by kernel_rfl]
  have hrl : r.2.length ≤ 4398046511104 := by have := hr.1; omega
  have hrf := okArg_fit hr
  have c95 : ((b.toNat : Int) == 95) = (b == 95) := eq_lit b 95 (by omega)
  have c0 : ((b.toNat : Int) != 0) = !(b == 0) := ne_lit b 0 (by omega)
  have c34 : ((b.toNat : Int) != 34) = !(b == 34) := ne_lit b 34 (by omega)
  unfold setR
  by_cases h95 : b = 95
  · have e95 : (b == 95) = true := beq_iff_eq.2 h95
    rw [if_pos h95]
    simp (maxSteps := 4000000) only [↓wpA_H, ↓wpH_ret, ↓wpH_seq, ↓wpH_cond, ↓wpH_block, ↓wpH_region, ↓iselH_true, bselH_false, runH_nil, runH_cons, gw, gselH_plain, cselH_bool, ↓chk, justK, noW, ↓oneK, ↓pureK, ↓heapK, envOf, ↓thenA_normal, ↓thenA_ret, ↓blockA_ret, ↓stepEv, opnd, Pg.look, binK, intOp, Bool.and_true, Bool.false_eq_true, implies_true, true_and, and_true, valV, heapV, footV, binV, intV, alives, aliveO, nxtQ, hdS, pairsA, frzA, closeQ_nil, closeQ_succ, diagQ_zero, diagQ_succ, Nat.reduceAdd, ofV, ofLeaf, retA, resK, tupA, subA, subQ, ptrsE, pairsO, frzO, subF, subG, pickOf, assocN, pairsE, pairsC, pairsL, pairs0, frzE, frzC, frzL, frz0, frzH, Pg.freeze, List.foldl_nil, subOs, subO, subEv, subV_succ, subM, AV.cells, AV.definite, AV.pureLeaf, AV.pureB, List.getElem?_cons_succ, List.getElem?_cons_zero, reduceCtorEq, Nat.reduceEqDiff, Nat.reduceAdd, Nat.reduceLT, List.nil_append, List.append_nil, List.cons_append, List.length_cons, List.length_nil, Nat.zero_add, ite_true, ite_false, List.all_cons, List.all_nil, Bool.and_self, and_self, List.contains_nil, Nat.zero_lt_succ, regH_none, isNext, nextF, nextG, selC_false, kRPut, kRGet, kRgSize, kRgClone, kCut1, hFile, c95, e95]
    (repeat' first | exact rfl | apply And.intro | exact subX_eq rfl (pureB_bytes _) | exact subX_eq rfl (pureB_aPs _) | exact subX_eq rfl rfl | decide | omega | apply subX_one)
    all_goals try simp (maxSteps := 4000000) only [subL]
  have e95 : (b == 95) = false := beq_eq_false_iff_ne.2 h95
  rw [if_neg h95]
  by_cases hb : b ≠ 0 ∧ b ≠ 34
  · have e0 : (b == 0) = false := beq_eq_false_iff_ne.2 hb.1
    have e34 : (b == 34) = false := beq_eq_false_iff_ne.2 hb.2
    rw [if_pos hb]
    have hps := putR_stock hl b r
    obtain ⟨p, hp⟩ : ∃ p, p = putR l b r := ⟨_, rfl⟩
    rw [← hp] at hps ⊢
    obtain ⟨pe, pl⟩ := p
    have hps : stockR pl := hps
    by_cases hz : pe = 0
    · have ez : (pe != 0) = false := by simp [hz]
      rw [if_pos hz]
      have hlen : ∀ v, look1 (gname b) pl = some v → v.2.length ≤ 4398046511104 := fun v hv => by have := hps _ _ hv; have := lsz_len v.2; omega
      obtain ⟨v, hv⟩ : ∃ v, v = (look1 (gname b) pl).getD (0, []) := ⟨_, rfl⟩
      rw [← hv]
      obtain ⟨vk, vl⟩ := v
      have hse : setE (.int .u8 34) (.agg [.int .i64 vk, .sl 1 (vl.map .str)]) (encE cByte cRgV pl) = encE cByte cRgV (upd 34 (vk, vl) pl) := setE_rg 34 vk vl pl
      subst hz
      simp (maxSteps := 4000000) only [↓wpA_H, ↓wpH_skip, ↓wpH_ret, ↓wpH_seq, ↓wpH_cond, ↓wpH_block, ↓wpH_region, ↓iselH_true, ↓iselH_false, bselH_false, runH_nil, runH_cons, gw, gselH_plain, gselH_if, kselH_1, cselH_bool, gkind, ↓chk, justK, noW, ↓oneK, ↓pureK, ↓heapK, envOf, ↓thenA_normal, ↓thenA_ret, ↓blockA_ret, ↓stepEv, opnd, Pg.look, binK, intOp, dstOf, Bool.and_true, Bool.not_false, Bool.not_true, Bool.false_eq_true, Bool.true_eq_false, implies_true, true_and, and_true, pickC, pickV, unc, gof, mux, mergeK, condsL, valV, heapV, footV, binV, intV, alives, aliveO, nxtQ, hdS, pairsA, frzA, closeQ_nil, closeQ_succ, diagQ_zero, diagQ_succ, Nat.reduceAdd, mergeable, look_stripE, ofV, ofLeaf, sameK, retA, resK, tupA, subA, subQ, ptrsE, pairsO, frzO, subF, subG, pickOf, assocN, pairsE, pairsC, pairsL, pairs0, frzE, frzC, frzL, frz0, frzH, Pg.freeze, List.foldl_nil, subOs, subO, subEv, subV_succ, subM, ldCells, objAt, ↓callT, normA, normC, normL, resL, res8_eq, res_succ, resM, AV.cells, TK.cells, AV.definite, AV.leaf, AV.leafy, AV.pureLeaf, AV.pureB, putCells, lay, Op.operands, List.getElem?_toArray, List.getElem?_cons_succ, List.getElem?_cons_zero, Option.bind_some, Option.getD_some, reduceCtorEq, Nat.reduceEqDiff, Nat.reduceAdd, Nat.reduceLT, Nat.reduceSub, List.nil_append, List.append_nil, List.cons_append, List.length_cons, List.length_nil, List.map_cons, List.map_nil, List.set_cons_zero, List.set_cons_succ, Nat.zero_add, ite_true, ite_false, Option.some.injEq, Option.isSome_some, Option.isSome_none, List.all_cons, List.all_nil, Bool.and_self, and_self, exists_eq_left', cInt_dec, List.toList_toArray, cByte_dec, cSl_dec, cAgg_dec, lOne_dec, lCons_dec, dec2_some, List.contains_cons, List.contains_nil, Nat.reduceBEq, Bool.or_self, beq_self_eq_true, List.range'_zero, bne_self_eq_false, decL_str, List.getD_cons_zero, List.getD_cons_succ, cutL, List.drop_zero, List.drop_succ_cons, List.take_succ_cons, List.take_zero, Nat.add_zero, Nat.sub_zero, Nat.sub_self, Nat.le_refl, List.drop_nil, List.take_nil, Nat.zero_lt_succ, regH_none, isNext, nextF, nextG, selC_true, selC_false, pureC, ↓msel, muC, ↓callU, ↓callUV, ↓callUH, ↓callUF, C1by_mu, C1mby_mu, runM_eq, mkM_some, hNil_dec, hCons_dec, app3_some, hP_dec, hP1_some, hP2_some, hO1_some, hM1_mp, hMp_dec, hB1_some, hB2_arr, hBox_dec, hAgg_dec, keys_byte, pickF, nodupB, somes, fresh, gids, gid, putO, ren, renL, renO, ↓mapK, isKeyA, kdT, tk52, tz52, dz52, tk90, mt90, tk92, dz92, kRPut, kRGet, kRgSize, kRgClone, kCut1, hFile, decE_rg, rgH, c95, e95, c0, e0, c34, e34, ← hp, ← hv, hse]
      refine ⟨⟨hl, hr⟩, hlen, ?_⟩
      (repeat' first | exact rfl | apply And.intro | exact subX_eq rfl (pureB_bytes _) | exact subX_eq rfl (pureB_aPs _) | exact subX_eq rfl rfl | decide | omega | apply subX_one)
      all_goals try simp (maxSteps := 4000000) only [subL]
    · have ez : (pe != 0) = true := by simp [hz]
      rw [if_neg hz]
      simp (maxSteps := 4000000) only [↓wpA_H, ↓wpH_ret, ↓wpH_seq, ↓wpH_cond, ↓wpH_block, ↓wpH_region, ↓iselH_true, ↓iselH_false, bselH_false, runH_nil, runH_cons, gw, gselH_plain, gselH_if, kselH_1, cselH_bool, gkind, ↓chk, justK, noW, ↓oneK, ↓pureK, ↓heapK, envOf, ↓thenA_normal, ↓thenA_ret, ↓blockA_ret, ↓stepEv, opnd, Pg.look, binK, intOp, dstOf, Bool.and_true, Bool.not_false, Bool.not_true, Bool.false_eq_true, Bool.true_eq_false, implies_true, true_and, and_true, pickC, pickV, unc, gof, mux, mergeK, condsL, valV, heapV, footV, binV, intV, alives, aliveO, nxtQ, hdS, pairsA, frzA, closeQ_nil, closeQ_succ, diagQ_zero, diagQ_succ, Nat.reduceAdd, mergeable, look_stripE, ofV, ofLeaf, sameK, retA, resK, tupA, subA, subQ, ptrsE, pairsO, frzO, subF, subG, pickOf, assocN, pairsE, pairsC, pairsL, pairs0, frzE, frzC, frzL, frz0, frzH, Pg.freeze, List.foldl_nil, subOs, subO, subEv, subV_succ, subM, ldCells, objAt, ↓callT, normA, normC, normL, resL, res8_eq, res_succ, resM, AV.cells, TK.cells, AV.definite, AV.pureLeaf, AV.pureB, Op.operands, List.getElem?_toArray, List.getElem?_cons_succ, List.getElem?_cons_zero, Option.bind_some, Option.getD_some, reduceCtorEq, Nat.reduceEqDiff, Nat.reduceAdd, Nat.reduceLT, Nat.reduceSub, List.nil_append, List.append_nil, List.cons_append, List.length_cons, List.length_nil, List.map_cons, List.map_nil, List.set_cons_zero, List.set_cons_succ, Nat.zero_add, ite_true, ite_false, Option.some.injEq, List.all_cons, List.all_nil, Bool.and_self, and_self, exists_eq_left', cInt_dec, List.toList_toArray, cByte_dec, cSl_dec, cAgg_dec, lOne_dec, lCons_dec, dec2_some, List.contains_cons, List.contains_nil, Nat.reduceBEq, Bool.or_self, List.range'_zero, decL_str, List.getD_cons_zero, List.getD_cons_succ, cutL, List.drop_zero, List.take_succ_cons, Nat.sub_zero, Nat.sub_self, Nat.le_refl, List.take_nil, Nat.zero_lt_succ, regH_none, isNext, nextF, nextG, selC_false, ↓msel, muC, ↓callU, ↓callUV, ↓callUH, ↓callUF, C1by_mu, C1mby_mu, runM_eq, mkM_some, hNil_dec, hCons_dec, app3_some, hP_dec, hP1_some, hP2_some, hO1_some, hM1_mp, hMp_dec, hB1_some, hB2_arr, hBox_dec, hAgg_dec, pickF, nodupB, somes, fresh, gids, gid, putO, ren, renL, renO, tk52, dz52, kRPut, kRGet, kRgSize, kRgClone, kCut1, hFile, decE_rg, rgH, c95, e95, c0, e0, c34, e34, ← hp, ez]
      refine ⟨⟨hl, hr⟩, ?_⟩
      (repeat' first | exact rfl | apply And.intro | exact subX_eq rfl (pureB_bytes _) | exact subX_eq rfl (pureB_aPs _) | exact subX_eq rfl rfl | decide | omega | apply subX_one)
      all_goals try simp (maxSteps := 4000000) only [subL]
  · have e34 : (b == 0) = false → (b == 34) = true := fun h => by
      rw [beq_eq_false_iff_ne] at h
      rw [beq_iff_eq]
      exact Classical.byContradiction fun h2 => hb ⟨h, h2⟩
    have ec : ((b.toNat : Int) != 0 && (b.toNat : Int) != 34) = false := by
      rw [c0, c34]
      cases hx : (b == 0) with
      | true => rfl
      | false => rw [e34 hx]; rfl
    rw [if_neg hb]
    by_cases hz : lsz r.2 > 4096
    · have cz : decide (lsz r.2 > 4096) = true := decide_eq_true hz
      rw [if_pos hz]
      simp (maxSteps := 4000000) only [↓wpA_H, ↓wpH_ret, ↓wpH_seq, ↓wpH_cond, ↓wpH_block, ↓wpH_region, ↓iselH_true, ↓iselH_false, bselH_false, runH_nil, runH_cons, gw, gselH_plain, gselH_if, kselH_1, cselH_bool, gkind, ↓chk, justK, noW, ↓oneK, ↓pureK, ↓heapK, envOf, ↓thenA_normal, ↓thenA_ret, ↓blockA_ret, ↓stepEv, opnd, Pg.look, binK, intOp, dstOf, Bool.and_true, Bool.false_eq_true, false_implies, implies_true, imp_self, true_and, and_true, pickC, pickV, unc, gof, mux, mergeK, condsL, valV, heapV, footV, binV, intV, alives, aliveO, nxtQ, hdS, pairsA, frzA, closeQ_nil, closeQ_succ, diagQ_zero, diagQ_succ, Nat.reduceAdd, mergeable, look_stripE, ofV, ofLeaf, sameK, retA, resK, tupA, subA, subQ, ptrsE, pairsO, frzO, subF, subG, pickOf, assocN, pairsE, pairsC, pairsL, pairs0, frzE, frzC, frzL, frz0, frzH, Pg.freeze, List.foldl_nil, subOs, subO, subEv, subV_succ, subM, ldCells, objAt, ↓callT, callC, callV, callH, normArgs, normA, normC, normL, resL, res8_eq, res_succ, resM, shiftR, shift1, AV.cells, TK.cells, AV.definite, AV.pureLeaf, AV.pureB, Op.operands, List.getElem?_toArray, List.getElem?_cons_succ, List.getElem?_cons_zero, Option.bind_some, Option.getD_some, reduceCtorEq, Nat.reduceEqDiff, Nat.reduceAdd, Nat.reduceLT, List.nil_append, List.append_nil, List.cons_append, List.length_cons, List.length_nil, List.map_cons, List.map_nil, Nat.zero_add, ite_true, ite_false, Option.some.injEq, Prod.mk.injEq, Bool.if_false_right, Bool.decide_eq_true, List.all_cons, List.all_nil, Bool.and_self, and_self, exists_eq_left', cInt_dec, List.toList_toArray, cSl_dec, cAgg_dec, lOne_dec, lCons_dec, dec2_some, List.contains_nil, List.range'_zero, decL_str, C1by_ns, C1by_pre, C1by_r, C1by_H, optP_some, optV_some, optH_some, List.getD_cons_zero, cutL, List.drop_zero, List.take_succ_cons, Nat.sub_zero, Nat.le_refl, List.take_nil, Nat.zero_lt_succ, C1by_it, regH_none, isNext, nextF, nextG, selC_false, ↓msel, muC, ↓callP, C1by_mu, C1mby_mu, tk52, dz52, kRPut, kRGet, kRgSize, kRgClone, kCut1, hFile, rgH, c95, e95, ec, cz]
      refine ⟨hrf, ?_⟩
      (repeat' first | exact rfl | apply And.intro | exact subX_eq rfl (pureB_bytes _) | exact subX_eq rfl (pureB_aPs _) | exact subX_eq rfl rfl | decide | omega | apply subX_one)
      all_goals try simp (maxSteps := 4000000) only [subL]
    · have cz : decide (lsz r.2 > 4096) = false := decide_eq_false hz
      rw [if_neg hz]
      have hse : ∀ m : Rgs, setE (.int .u8 34) (.agg [.int .i64 r.1, .sl 1 (r.2.map .str)]) (encE cByte cRgV m) = encE cByte cRgV (upd 34 r m) := fun m => setE_rg 34 r.1 r.2 m
      simp (maxSteps := 4000000) only [↓wpA_H, ↓wpH_skip, ↓wpH_ret, ↓wpH_seq, ↓wpH_cond, ↓wpH_block, ↓wpH_region, ↓iselH_false, bselH_false, runH_nil, runH_cons, gw, gselH_plain, gselH_if, kselH_1, cselH_bool, gkind, ↓chk, justK, noW, ↓oneK, ↓pureK, ↓heapK, envOf, ↓thenA_normal, ↓blockA_normal, ↓stepEv, opnd, Pg.look, binK, intOp, dstOf, Bool.and_true, Bool.not_false, Bool.false_eq_true, false_implies, implies_true, imp_self, true_and, and_true, pickC, pickV, unc, gof, mux, mergeK, condsL, valV, heapV, footV, binV, intV, alives, aliveO, nxtQ, hdS, pairsA, frzA, closeQ_nil, closeQ_succ, diagQ_zero, diagQ_succ, Nat.reduceAdd, mergeable, look_stripE, ofV, ofLeaf, sameK, retA, resK, tupA, subA, subQ, ptrsE, pairsO, frzO, subF, subG, pickOf, assocN, pairsE, pairsC, pairsL, pairs0, frzE, frzC, frzL, frz0, frzH, Pg.freeze, List.foldl_nil, subOs, subO, subEv, subV_succ, subM, ldCells, objAt, ↓callT, callC, callV, callH, normArgs, normA, normC, normL, resL, res8_eq, res_succ, resM, shiftR, shift1, AV.cells, TK.cells, AV.definite, AV.pureLeaf, AV.pureB, Op.operands, List.getElem?_toArray, List.getElem?_cons_succ, List.getElem?_cons_zero, Option.bind_some, Option.getD_some, reduceCtorEq, Nat.reduceEqDiff, Nat.reduceAdd, Nat.reduceLT, Nat.reduceSub, List.nil_append, List.append_nil, List.cons_append, List.length_cons, List.length_nil, List.map_cons, List.map_nil, List.set_cons_zero, List.set_cons_succ, Nat.zero_add, ite_true, ite_false, Option.some.injEq, Option.isSome_some, Option.isSome_none, Prod.mk.injEq, Bool.if_false_right, Bool.decide_eq_true, List.all_cons, List.all_nil, Bool.and_self, and_self, exists_eq_left', cInt_dec, List.toList_toArray, cSl_dec, cAgg_dec, lOne_dec, lCons_dec, dec2_some, List.contains_cons, List.contains_nil, Nat.reduceBEq, Bool.or_self, beq_self_eq_true, List.range'_zero, decL_str, C1by_ns, C1by_pre, C1by_r, C1by_H, optP_some, optV_some, optH_some, List.getD_cons_zero, List.getD_cons_succ, cutL, List.drop_zero, List.take_succ_cons, Nat.add_zero, Nat.sub_zero, Nat.sub_self, Nat.le_refl, List.take_nil, Nat.zero_lt_succ, C1by_it, regH_none, isNext, nextF, nextG, selC_true, selC_false, pureC, ↓msel, muC, ↓callP, ↓callU, ↓callUV, ↓callUH, ↓callUF, C1by_mu, C1mby_mu, runM_eq, mkM_some, hNil_dec, hCons_dec, app3_some, hP_dec, hP1_some, hP2_some, hO1_some, hM1_mp, hMp_dec, hB1_some, hB2_arr, hBox_dec, hAgg_dec, keys_byte, pickF, nodupB, somes, fresh, gids, gid, putO, ren, renL, renO, ↓mapK, isKeyA, kdT, tk52, dz52, tk90, mt90, tk92, dz92, kRPut, kRGet, kRgSize, kRgClone, kCut1, hFile, decE_rg, rgH, c95, e95, ec, cz, hrl, hse]
      refine ⟨hrf, ?_⟩
      (repeat' first | exact rfl | apply And.intro | exact subX_eq rfl (pureB_bytes _) | exact subX_eq rfl (pureB_aPs _) | exact subX_eq rfl rfl | decide | omega | apply subX_one)
      all_goals try simp (maxSteps := 4000000) only [subL]
def kSetC : C1 := C1.mby (hSelf 53 58 hFile (hP .id cByte) (hP (.ag [none, some 1]) cRgV) (hBox 52 2 (hP (.ag [none, some 1]) cRgV)))
  (fun d => d.2.2.2.1 = d.2.2.1 ∧ stockR d.1.1 ∧ okArg d.2.2.1) (fun d => .int .i64 (setR cutR d.1.1 d.2.1 d.2.2.1).1) (fun d => setH d.2.2.1 (setR cutR d.1.1 d.2.1 d.2.2.1).2)
theorem ok_setC : C1OK Try.prog 52 kSetC := C1OK.mby (by kernel_rfl) (fun d h => by
  obtain ⟨⟨l, u⟩, b, r, r', u2⟩ := d
  obtain ⟨h1, h2, h3⟩ := h
  have h1 : r' = r := h1
  subst h1
  exact calls_setC l b r' h2 h3) (fun _ _ => Nat.le_refl _)

set_option maxRecDepth 20000 in
set_option maxHeartbeats 8000000 in
theorem calls_RCut (l : Rgs) (b : UInt8) (r : RgV) (hl : stockR l) (hr : okArg r) : CallsR Try.prog 34 [.ptr 0 1 1 0 0, .int .u8 b.toNat, aRg r] (rgH l)
    (.int .i64 (setR cutR l b r).1) (rgH (setR cutR l b r).2) := by
  refine callsR_of (mrg := true) (dyn := []) (CtrOK.cons ok_setC (CtrOK.nil _)) mixed Try.func34 rfl (by simp [Try.ntmps34]) (by kernel_rfl) ?_
  rw [show Try.f34.results.toList = [.tmp 6] from by kernel_rfl]
  simp (maxSteps := 4000000) only [↓wpA_H, ↓wpH_ret, ↓wpH_seq, ↓wpH_region, bselH_false, runH_nil, runH_cons, gw, gselH_plain, ↓chk, justK, noW, ↓oneK, ↓pureK, ↓heapK, envOf, ↓thenA_normal, ↓stepEv, opnd, Pg.look, Bool.and_true, Bool.not_false, Bool.false_eq_true, implies_true, true_and, and_true, valV, heapV, footV, alives, aliveO, nxtQ, hdS, pairsA, frzA, closeQ_nil, closeQ_succ, diagQ_zero, diagQ_succ, Nat.reduceAdd, ofV, ofLeaf, retA, resK, tupA, subA, subQ, ptrsE, pairsO, frzO, subF, subG, pickOf, assocN, pairsE, pairsC, pairsL, pairs0, frzE, frzC, frzL, frz0, frzH, Pg.freeze, List.foldl_nil, subOs, subO, subEv, subV_succ, subM, ldCells, objAt, ↓callT, normA, normC, normL, resL, res8_eq, res_succ, resM, AV.cells, TK.cells, AV.definite, AV.pureLeaf, AV.pureB, List.getElem?_cons_succ, List.getElem?_cons_zero, Option.getD_some, reduceCtorEq, Nat.reduceEqDiff, Nat.reduceAdd, Nat.reduceLT, Nat.reduceSub, List.nil_append, List.append_nil, List.cons_append, List.length_cons, List.length_nil, List.map_cons, List.map_nil, List.set_cons_zero, List.set_cons_succ, Nat.zero_add, ite_true, ite_false, Option.some.injEq, List.all_cons, List.all_nil, Bool.and_self, and_self, exists_eq_left', cInt_dec, cByte_dec, cSl_dec, cAgg_dec, lOne_dec, lCons_dec, dec2_some, List.contains_cons, List.contains_nil, Nat.reduceBEq, Bool.or_self, beq_self_eq_true, List.range'_zero, decL_str, List.getD_cons_zero, List.getD_cons_succ, cutL, List.drop_zero, List.take_succ_cons, Nat.sub_zero, Nat.sub_self, Nat.le_refl, List.take_nil, Nat.zero_lt_succ, regH_none, isNext, nextF, nextG, selC_false, ↓msel, muC, ↓callU, ↓callUV, ↓callUH, ↓callUF, C1mby_mu, runM_eq, mkM_some, hNil_dec, hCons_dec, app3_some, hP_dec, hP1_some, hP2_some, hO1_some, hM1_mp, hMp_dec, hB1_some, hB2_arr, hBox_dec, hAgg_dec, pickF, nodupB, somes, fresh, gids, gid, putO, ren, renL, renO, tk52, dz52, tk58, dz58, kSetC, hFile, decE_rg, hSelf_dec, selfB_some, ptrB_ptr]
  refine ⟨⟨hl, hr⟩, ?_⟩
  (repeat' first | exact rfl | apply And.intro | exact subX_eq rfl (pureB_bytes _) | exact subX_eq rfl (pureB_aPs _) | exact subX_eq rfl rfl | decide | omega | apply subX_one)
  all_goals try simp (maxSteps := 4000000) only [subL]
def kRCut : C1 := C1.mby (hCons hFile (hCons (hP .id cByte) (hCons (hP (.ag [none, some 1]) cRgV) hNil))) (fun d => stockR d.1.1 ∧ okArg d.2.2.1)
  (fun d => .int .i64 (setR cutR d.1.1 d.2.1 d.2.2.1).1) (fun d => rgH (setR cutR d.1.1 d.2.1 d.2.2.1).2)
theorem ok_RCut : C1OK Try.prog 34 kRCut := C1OK.mby (by kernel_rfl) (fun d h => calls_RCut d.1.1 d.2.1 d.2.2.1 h.1 h.2) (fun _ _ => Nat.le_refl _)
end Go.Pg
