/- Two registers as one; the file of registers: made, asked, set by a letter. -/
import Derived.Test.YtohpkjpipihdoaaPgFr2
import Derived.Test.YtohpkjpipihdoaaPgFx0
import Derived.Test.YtohpkjpipihdoaaPgFx1
namespace Go.Pg
open Go Go.Proofs

def joinR (a b : RgV) : RgV :=
  if (a.1 != 0 || b.1 != 0) = true then (1, a.2 ++ b.2)
  else if ((a.2.length : Int) == 0 || (b.2.length : Int) == 0) = true then (0, a.2 ++ b.2)
  else (0, a.2.take (a.2.length - 1) ++ ((a.2.getD (a.2.length - 1) [] ++ b.2.getD 0 []) :: b.2.drop 1))
set_option maxRecDepth 20000 in
set_option maxHeartbeats 4000000 in
theorem calls_RJoin (a b : RgV) (ha : fitR a.2) (hb : fitR b.2) : CallsR Try.prog 28 [aRg a, aRg b] [] (aRg (joinR a b)) [] := by
  refine callsR_of (mrg := true) (dyn := [6]) (CtrOK.cons ok_ConcatR (CtrOK.nil _)) mixed Try.func28 rfl (by simp [Try.ntmps28]) (by kernel_rfl) ?_
  rw [show Try.f28.results.toList = [.cell 4 52] from by kernel_rfl]
  obtain ⟨ak, al⟩ := a
  obtain ⟨bk, bl⟩ := b
  have ha1 : al.length ≤ 1000000 := ha.1
  have hb1 : bl.length ≤ 1000000 := hb.1
  have ha2 : ∀ i, (al.getD i []).length ≤ 1152921504606846976 := fun i => by have := lsz_getD al i; have h9 : lsz al ≤ 1152921504606846976 := ha.2; omega
  have hb2 : ∀ i, (bl.getD i []).length ≤ 1152921504606846976 := fun i => by have := lsz_getD bl i; have h9 : lsz bl ≤ 1152921504606846976 := hb.2; omega
  simp (maxSteps := 4000000) only [↓wpA_H, ↓wpH_skip, ↓wpH_ret, ↓wpH_seq, ↓wpH_cond, ↓wpH_region, bselH_true, iselH_if, bselH_false, runH_nil, runH_cons, gw, gselH_plain, gselH_if, kselH_1, cselH_bool, gkind, ↓chk, justK, noW, ↓oneK, ↓pureK, ↓heapK, envOf, ↓thenA_normal, ↓thenA_ret, ↓stepEv, opnd, Pg.look, binK, intOp, strOp, dstOf, Bool.and_false, Bool.and_true, Bool.false_eq_true, implies_true, imp_self, true_and, and_true, forall_const, pickC, pickV, unc, gof, mux, mergeK, condsL, valV, heapV, footV, binV, intV, strV, cutV, alives, closeQ_nil, diagQ_zero, Nat.reduceAdd, mergeable, look_stripE, ofV, ofLeaf, sameK, retA, resK, tupA, subA, subQ, ptrsE, frzO, subF, subG, pickOf, frzE, frzC, frzL, frz0, frzH, Pg.freeze, List.foldl_nil, List.foldl_cons, subOs, subEv, subV_succ, subM, subL, slen, ldCells, objAt, sliceL, ↓callT, callC, callV, callH, normArgs, normA, normC, normE, resL, res8_eq, res_succ, resM, shiftR, shift1, AV.cells, TK.cells, AV.definite, AV.leaf, AV.leafy, AV.pureLeaf, AV.pureB, putCells, lay, buildL, frzAt, Op.operands, Call.operands, Array.toList_append, List.getElem?_toArray, List.getElem?_cons_succ, List.getElem?_cons_zero, Option.bind_some, Option.map_some, Option.map_none, Option.getD_some, reduceCtorEq, Nat.reduceEqDiff, Nat.reduceAdd, List.nil_append, List.append_nil, List.cons_append, List.length_cons, List.length_nil, List.map_cons, List.map_nil, List.set_cons_zero, List.set_cons_succ, Nat.zero_add, Int.reduceToNat, ite_true, ite_false, Option.some.injEq, Option.isSome_some, AV.int.injEq, AV.agg.injEq, Bool.if_true_left, Bool.decide_eq_true, List.all_cons, List.all_nil, Bool.and_self, and_self, Bool.not_eq_true', exists_eq_left', pickOK_nil, List.length_map, List.toList_toArray, rg1, rg2, rg3, Int.reduceLE, cStr_dec, cSl_dec, lOne_dec, List.contains_cons, List.contains_nil, Nat.reduceBEq, Bool.or_self, Bool.or_false, beq_self_eq_true, decL_nil, decL_cons, consO_some, List.range'_zero, Nat.reducePow, decL_str, C1by_ns, C1by_pre, C1by_r, C1by_H, optP_some, optV_some, optH_some, ← List.map_drop, ← List.map_take, getD_str, List.getD_cons_zero, cutL, List.drop_zero, List.drop_succ_cons, List.take_succ_cons, List.take_zero, Nat.add_zero, Nat.sub_zero, Nat.reduceLeDiff, Nat.le_refl, Nat.mul_one, List.drop_nil, List.take_nil, Nat.zero_lt_succ, C1by_it, regH_none, isNext, nextF, nextG, selC_false, ↓msel, muC, ↓callP, C1by_mu, mapAt, tk3, tk9, dz9, eb9, tk50, eb50, tk52, tz52, dz52, tk102, kConcatR]
  have hf : [al, bl].flatten = al ++ bl := by simp
  refine ⟨fun h => ?_, fun h => ⟨fun h2 => ?_, fun h2 => ?_⟩⟩
  · have hj : joinR (ak, al) (bk, bl) = (1, al ++ bl) := if_pos h
    rw [hj, hf]
    exact ⟨by rw [List.length_append]; omega, rfl, rfl⟩
  · have hj : joinR (ak, al) (bk, bl) = (0, al ++ bl) := by
      unfold joinR
      rw [if_neg (by rw [show ((ak, al).1 != 0 || (bk, bl).1 != 0) = false from h]; simp)]
      exact if_pos h2
    rw [hj, hf]
    exact ⟨by rw [List.length_append]; omega, rfl, rfl⟩
  · have hj : joinR (ak, al) (bk, bl) = (0, al.take (al.length - 1) ++ ((al.getD (al.length - 1) [] ++ bl.getD 0 []) :: bl.drop 1)) := by
      unfold joinR
      rw [if_neg (by rw [show ((ak, al).1 != 0 || (bk, bl).1 != 0) = false from h]; simp)]
      exact if_neg (by rw [show (((ak, al).2.length : Int) == 0 || ((bk, bl).2.length : Int) == 0) = false from h2]; simp)
    simp only [Bool.or_eq_false_iff, beq_eq_false_iff_ne, ne_eq] at h2
    have w : IntKind.i64.wrap ((al.length : Int) - 1) = ((al.length - 1 : Nat) : Int) := by rw [wrap64 (by omega) (by omega)]; omega
    have h3 := ha2 (al.length - 1)
    have h4 := hb2 0
    have hf3 : ∀ (x : LsR) (y : List UInt8) (z : LsR), [x, [y], z].flatten = x ++ y :: z := fun x y z => by simp
    rw [w, Int.toNat_natCast, hj, hf3]
    exact ⟨⟨by omega, by omega⟩, ⟨by omega, by omega⟩, by omega, by omega, by omega, by rw [List.length_append, List.length_take, List.length_cons, List.length_drop]; omega, by kernel_rfl, rfl, rfl⟩
def kRJoin : C1 := C1.by [.ag [none, some 1], .ag [none, some 1]] (lCons cRgV (lOne cRgV)) (fun d => fitR d.1.2 ∧ fitR d.2.2) (fun d => aRg (joinR d.1 d.2)) (fun _ => [])
theorem ok_RJoin : C1OK Try.prog 28 kRJoin := C1OK.by (by kernel_rfl) (fun d h => calls_RJoin d.1 d.2 h.1 h.2) (fun _ => rfl) (fun _ => rfl)

/-! ### The file -/
abbrev Rgs := List (UInt8 × RgV)
theorem setE_rg (k : UInt8) (a : Int) (s : LsR) (l : Rgs) : setE (.int .u8 k.toNat) (.agg [.int .i64 a, .sl 1 (s.map .str)]) (encE cByte cRgV l) = encE cByte cRgV (upd k (a, s) l) := setE_byte cRgV k (a, s) l
theorem decE_rg (l : Rgs) : decE cByte cRgV (encE cByte cRgV l) = some l := decE_enc cByte cRgV cByte_dec cRgV_ed l
theorem isSome_rg (k : UInt8) (l : Rgs) : ((look1 k l).map cRgV.enc).isSome = (look1 k l).isSome := by
  cases look1 k l <;> rfl
def hFile : HC (Rgs × Unit) := hPtr 92 1 (hCons (hMp cByte cRgV) hNil)
abbrev rgH (l : Rgs) : AH := [.arr 92 1 [.agg [.mp 1]], .mp (encE cByte cRgV l)]
theorem subX_one' {H : AH} {F : List Nat} {pick : List (Option Nat)} {x y : AV} (h : subL (subV H F pick 8) x.cells y.cells) : subX H F pick [x] [y] := .inr ⟨h, trivial⟩

set_option maxHeartbeats 4000000 in
theorem calls_RNew : CallsR Try.prog 33 [] [] (.ptr 0 1 1 0 0) (rgH []) := by
  refine callsR_of (mrg := true) (dyn := []) (CtrOK.nil _) mixed Try.func33 rfl (by simp [Try.ntmps33]) (by kernel_rfl) ?_
  rw [show Try.f33.results.toList = [.tmp 0] from by kernel_rfl]
  simp (maxSteps := 4000000) only [↓wpA_H, ↓wpH_ret, ↓wpH_seq, ↓wpH_region, bselH_false, runH_nil, runH_cons, gw, gselH_plain, ↓chk, justK, noW, ↓oneK, ↓pureK, ↓heapK, envOf, ↓thenA_normal, ↓stepEv, opnd, Pg.look, Bool.and_true, Bool.false_eq_true, implies_true, true_and, and_true, valV, heapV, footV, alives, aliveO, nxtQ, hdS, pairsA, frzA, closeQ_nil, closeQ_succ, diagQ_zero, ofV, ofLeaf, retA, resK, tupA, subA, subQ, ptrsE, pairsO, frzO, subF, subG, pickOf, assocN, pairsE, pairsC, pairsL, pairs0, frzE, frzC, frzL, frz0, frzH, Pg.freeze, List.foldl_nil, subOs, subO, subEv, subV_succ, subM, AV.cells, AV.definite, AV.pureLeaf, AV.pureB, lay, buildL, List.getElem?_cons_succ, List.getElem?_cons_zero, Option.getD_some, reduceCtorEq, Nat.reduceEqDiff, List.nil_append, List.append_nil, List.cons_append, List.length_cons, List.length_nil, List.map_cons, List.map_nil, Nat.zero_add, ite_true, ite_false, Option.some.injEq, Option.isSome_some, AV.agg.injEq, List.all_cons, List.all_nil, Bool.and_self, and_self, exists_eq_left', List.contains_nil, List.drop_succ_cons, List.take_zero, Nat.le_refl, Nat.lt_irrefl, List.drop_nil, Nat.not_lt_zero, regH_none, isNext, nextF, nextG, selC_false, encE_nil, ↓mapK, tk92, tz92]
  refine ⟨by decide, subX_one' ?_⟩
  simp (maxSteps := 4000000) only [subV_succ, subM, subL, AV.cells, List.getElem?_cons_succ, List.getElem?_cons_zero, and_self]
def kRNew : C1 := C1.mby hNil (fun _ => True) (fun _ => .ptr 0 1 1 0 0) (fun _ => rgH [])
theorem ok_RNew : C1OK Try.prog 33 kRNew := C1OK.mby (by kernel_rfl) (fun _ _ => calls_RNew) (fun _ _ => Nat.zero_le _)

def isUp (b : UInt8) : Bool := decide (65 ≤ b.toNat) && decide (b.toNat ≤ 90)
def isLow (b : UInt8) : Bool := decide (97 ≤ b.toNat) && decide (b.toNat ≤ 122)
/-- The name that is asked. -/
def gname (b : UInt8) : UInt8 := if b = 0 then 34 else if isUp b = true then b + 32 else b
theorem up_wrap {b : UInt8} (h : isUp b = true) : IntKind.u8.wrap ((b.toNat : Int) + 32) = ((b + 32).toNat : Int) := by
  simp only [isUp, Bool.and_eq_true, decide_eq_true_eq] at h
  rw [UInt8.toNat_add, show (32 : UInt8).toNat = 32 from rfl]
  simp [IntKind.wrap, IntKind.bits, IntKind.signed]
theorem up_eq (b : UInt8) : (decide ((b.toNat : Int) ≥ 65) && decide ((b.toNat : Int) ≤ 90)) = isUp b := by
  unfold isUp
  rw [show decide ((b.toNat : Int) ≥ 65) = decide (65 ≤ b.toNat) by rw [Bool.eq_iff_iff]; simp only [decide_eq_true_eq]; omega, show decide ((b.toNat : Int) ≤ 90) = decide (b.toNat ≤ 90) by rw [Bool.eq_iff_iff]; simp only [decide_eq_true_eq]; omega]
theorem low_eq (b : UInt8) : (decide ((b.toNat : Int) ≥ 97) && decide ((b.toNat : Int) ≤ 122)) = isLow b := by
  unfold isLow
  rw [show decide ((b.toNat : Int) ≥ 97) = decide (97 ≤ b.toNat) by rw [Bool.eq_iff_iff]; simp only [decide_eq_true_eq]; omega, show decide ((b.toNat : Int) ≤ 122) = decide (b.toNat ≤ 122) by rw [Bool.eq_iff_iff]; simp only [decide_eq_true_eq]; omega]
theorem byte_eq (a b : UInt8) : ((a.toNat : Int) == (b.toNat : Int)) = (a == b) := by
  rw [Bool.eq_iff_iff]
  simp only [beq_iff_eq]
  exact ⟨fun h => UInt8.toNat_inj.1 (by omega), fun h => by rw [h]⟩

set_option maxRecDepth 20000 in
set_option maxHeartbeats 4000000 in
theorem calls_RGet (l : Rgs) (b : UInt8) (hl : ∀ v, look1 (gname b) l = some v → v.2.length ≤ 4398046511104) : CallsR Try.prog 35 [.ptr 0 1 1 0 0, .int .u8 b.toNat] (rgH l)
    (.tuple [aRg ((look1 (gname b) l).getD (0, [])), .bool (look1 (gname b) l).isSome]) (rgH l) := by
  refine callsR_of (mrg := true) (dyn := []) (CtrOK.cons ok_RgClone (CtrOK.nil _)) mixed Try.func35 rfl (by simp [Try.ntmps35]) (by kernel_rfl) ?_
  rw [show Try.f35.results.toList = [.cell 4 52, .tmp 5] from by kernel_rfl]
  by_cases h0 : b = 0
  · have c0 : ((b.toNat : Int) == 0) = true := by rw [h0]; rfl
    have hg : gname b = 34 := if_pos h0
    rw [hg] at hl ⊢
    have hf : findE (.int .u8 34) (encE cByte cRgV l) = (look1 34 l).map cRgV.enc := findE_byte cRgV 34 l
    cases hk : look1 34 l with
    | none =>
      rw [hk] at hf
      simp (maxSteps := 4000000) only [↓wpA_H, ↓wpH_ret, ↓wpH_seq, ↓wpH_cond, ↓wpH_block, ↓wpH_region, ↓iselH_true, bselH_false, runH_nil, runH_cons, gw, gselH_plain, cselH_bool, ↓chk, justK, noW, ↓oneK, ↓pureK, ↓heapK, envOf, ↓thenA_normal, ↓blockA_normal, ↓stepEv, opnd, Pg.look, binK, intOp, Bool.and_true, Bool.false_eq_true, implies_true, imp_self, true_and, and_true, valV, heapV, footV, binV, intV, alives, aliveO, nxtQ, hdS, pairsA, frzA, closeQ_nil, closeQ_succ, diagQ_zero, diagQ_succ, Nat.reduceAdd, ofV, ofLeaf, retA, resK, tupA, subA, subQ, ptrsE, pairsO, frzO, subF, subG, pickOf, pairsE, pairsC, pairsL, pairs0, frzE, frzC, frzL, frz0, frzH, Pg.freeze, List.foldl_nil, subOs, subO, subEv, subV_succ, subM, subL, ldCells, objAt, ↓callT, callC, callV, callH, normArgs, normA, normC, normL, resL, res8_eq, res_succ, resM, shiftR, shift1, AV.cells, TK.cells, AV.definite, AV.leaf, AV.leafy, AV.pureLeaf, AV.pureB, putCells, lay, List.getElem?_cons_succ, List.getElem?_cons_zero, Option.map_none, Option.getD_some, Option.getD_none, reduceCtorEq, Nat.reduceEqDiff, Nat.reduceAdd, Nat.reduceLT, List.nil_append, List.append_nil, List.cons_append, List.length_cons, List.length_nil, List.map_cons, List.map_nil, List.set_cons_zero, List.set_cons_succ, Nat.zero_add, ite_true, ite_false, Option.some.injEq, Option.isSome_none, List.all_cons, List.all_nil, Bool.and_self, and_self, exists_eq_left', cInt_dec, cSl_dec, cAgg_dec, lOne_dec, lCons_dec, dec2_some, List.contains_nil, beq_self_eq_true, decL_nil, List.range'_zero, C1by_ns, C1by_pre, C1by_r, C1by_H, optP_some, optV_some, optH_some, List.getD_cons_zero, cutL, List.drop_zero, List.drop_succ_cons, List.take_succ_cons, List.take_zero, Nat.add_zero, Nat.sub_zero, Nat.le_refl, List.drop_nil, List.take_nil, Nat.zero_lt_succ, Nat.zero_le, C1by_it, regH_none, isNext, nextF, nextG, selC_false, ↓msel, muC, ↓callP, C1by_mu, keys_byte, ↓mapK, mapAt, isKeyA, kdT, hasE, lookV, tk52, tz52, dz52, tk90, mt90, tk92, dz92, kRgClone, c0, hf]
      refine ⟨by decide, subX_one' ?_⟩
      simp (maxSteps := 4000000) only [subV_succ, subM, subL, AV.cells, List.getElem?_cons_succ, List.getElem?_cons_zero, and_self]
    | some v =>
      obtain ⟨vk, vl⟩ := v
      have hvl : vl.length ≤ 4398046511104 := hl _ hk
      rw [hk] at hf
      simp (maxSteps := 4000000) only [↓wpA_H, ↓wpH_ret, ↓wpH_seq, ↓wpH_cond, ↓wpH_block, ↓wpH_region, ↓iselH_true, bselH_false, runH_nil, runH_cons, gw, gselH_plain, cselH_bool, ↓chk, justK, noW, ↓oneK, ↓pureK, ↓heapK, envOf, ↓thenA_normal, ↓blockA_normal, ↓stepEv, opnd, Pg.look, binK, intOp, Bool.and_true, Bool.false_eq_true, implies_true, imp_self, true_and, and_true, valV, heapV, footV, binV, intV, alives, aliveO, nxtQ, hdS, pairsA, frzA, closeQ_nil, closeQ_succ, diagQ_zero, diagQ_succ, Nat.reduceAdd, ofV, ofLeaf, retA, resK, tupA, subA, subQ, ptrsE, pairsO, frzO, subF, subG, pickOf, pairsE, pairsC, pairsL, pairs0, frzE, frzC, frzL, frz0, frzH, Pg.freeze, List.foldl_nil, subOs, subO, subEv, subV_succ, subM, subL, ldCells, objAt, ↓callT, callC, callV, callH, normArgs, normA, normC, normL, resL, res8_eq, res_succ, resM, shiftR, shift1, AV.cells, TK.cells, AV.definite, AV.leaf, AV.leafy, AV.pureLeaf, AV.pureB, putCells, lay, List.getElem?_cons_succ, List.getElem?_cons_zero, Option.map_some, Option.getD_some, reduceCtorEq, Nat.reduceEqDiff, Nat.reduceAdd, Nat.reduceLT, List.nil_append, List.append_nil, List.cons_append, List.length_cons, List.length_nil, List.map_cons, List.map_nil, List.set_cons_zero, List.set_cons_succ, Nat.zero_add, ite_true, ite_false, Option.some.injEq, Option.isSome_some, List.all_cons, List.all_nil, Bool.and_self, and_self, exists_eq_left', cInt_dec, cSl_dec, cAgg_dec, lOne_dec, lCons_dec, dec2_some, List.contains_nil, beq_self_eq_true, List.range'_zero, decL_str, C1by_ns, C1by_pre, C1by_r, C1by_H, optP_some, optV_some, optH_some, List.getD_cons_zero, cutL, List.drop_zero, List.drop_succ_cons, List.take_succ_cons, List.take_zero, Nat.add_zero, Nat.sub_zero, Nat.le_refl, List.drop_nil, List.take_nil, Nat.zero_lt_succ, C1by_it, regH_none, isNext, nextF, nextG, selC_false, ↓msel, muC, ↓callP, C1by_mu, keys_byte, ↓mapK, mapAt, isKeyA, kdT, hasE, lookV, tk52, tz52, dz52, tk90, mt90, tk92, dz92, kRgClone, c0, hf, cRgV_enc, hvl]
      refine ⟨by decide, subX_one' ?_⟩
      simp (maxSteps := 4000000) only [subV_succ, subM, subL, AV.cells, List.getElem?_cons_succ, List.getElem?_cons_zero, and_self]
  · have c0 : ((b.toNat : Int) == 0) = false := by
      have h := byte_eq b 0
      rw [show (((0 : UInt8).toNat : Nat) : Int) = 0 from rfl] at h
      rw [h, beq_eq_false_iff_ne]; exact h0
    have c1 := up_eq b
    cases hu : isUp b with
    | true =>
      rw [hu] at c1
      have hg : gname b = b + 32 := by unfold gname; rw [if_neg h0, if_pos hu]
      have hw := up_wrap hu
      rw [hg] at hl ⊢
      cases hk : look1 (b + 32) l with
      | none =>
        simp (maxSteps := 4000000) only [↓wpA_H, ↓wpH_ret, ↓wpH_seq, ↓wpH_cond, ↓wpH_block, ↓wpH_region, ↓iselH_true, ↓iselH_false, bselH_false, runH_nil, runH_cons, gw, gselH_plain, gselH_if, kselH_1, cselH_bool, gkind, ↓chk, justK, noW, ↓oneK, ↓pureK, ↓heapK, envOf, ↓thenA_normal, ↓blockA_normal, ↓stepEv, opnd, Pg.look, binK, intOp, dstOf, Bool.and_true, Bool.false_eq_true, implies_true, imp_self, true_and, and_true, pickC, pickV, unc, gof, mux, mergeK, condsL, valV, heapV, footV, binV, intV, alives, aliveO, nxtQ, hdS, pairsA, frzA, closeQ_nil, closeQ_succ, diagQ_zero, diagQ_succ, Nat.reduceAdd, mergeable, look_stripE, ofV, ofLeaf, sameK, retA, resK, tupA, subA, subQ, ptrsE, pairsO, frzO, subF, subG, pickOf, pairsE, pairsC, pairsL, pairs0, frzE, frzC, frzL, frz0, frzH, Pg.freeze, List.foldl_nil, subOs, subO, subEv, subV_succ, subM, subL, ldCells, objAt, ↓callT, callC, callV, callH, normArgs, normA, normC, normL, resL, res8_eq, res_succ, resM, shiftR, shift1, AV.cells, TK.cells, AV.definite, AV.leaf, AV.leafy, AV.pureLeaf, AV.pureB, putCells, lay, Op.operands, List.getElem?_toArray, List.getElem?_cons_succ, List.getElem?_cons_zero, Option.bind_some, Option.map_none, Option.getD_some, Option.getD_none, reduceCtorEq, Nat.reduceEqDiff, Nat.reduceAdd, Nat.reduceLT, List.nil_append, List.append_nil, List.cons_append, List.length_cons, List.length_nil, List.map_cons, List.map_nil, List.set_cons_zero, List.set_cons_succ, Nat.zero_add, ite_true, ite_false, Option.some.injEq, Option.isSome_none, Bool.if_false_right, decide_eq_true_eq, decide_eq_false_iff_not, Int.not_le, List.all_cons, List.all_nil, Bool.and_self, and_self, exists_eq_left', cInt_dec, List.toList_toArray, cSl_dec, cAgg_dec, lOne_dec, lCons_dec, dec2_some, List.contains_nil, beq_self_eq_true, decL_nil, List.range'_zero, C1by_ns, C1by_pre, C1by_r, C1by_H, optP_some, optV_some, optH_some, List.getD_cons_zero, cutL, List.drop_zero, List.drop_succ_cons, List.take_succ_cons, List.take_zero, Nat.add_zero, Nat.sub_zero, Nat.le_refl, List.drop_nil, List.take_nil, Nat.zero_lt_succ, Nat.zero_le, C1by_it, regH_none, isNext, nextF, nextG, selC_false, ↓msel, muC, ↓callP, C1by_mu, findE_byte, keys_byte, ↓mapK, mapAt, isKeyA, kdT, hasE, lookV, tk52, tz52, dz52, tk90, mt90, tk92, dz92, kRgClone, c0, c1, hw, hk]
        refine ⟨by decide, subX_one' ?_⟩
        simp (maxSteps := 4000000) only [subV_succ, subM, subL, AV.cells, List.getElem?_cons_succ, List.getElem?_cons_zero, and_self]
      | some v =>
        obtain ⟨vk, vl⟩ := v
        have hvl : vl.length ≤ 4398046511104 := hl _ hk
        simp (maxSteps := 4000000) only [↓wpA_H, ↓wpH_ret, ↓wpH_seq, ↓wpH_cond, ↓wpH_block, ↓wpH_region, ↓iselH_true, ↓iselH_false, bselH_false, runH_nil, runH_cons, gw, gselH_plain, gselH_if, kselH_1, cselH_bool, gkind, ↓chk, justK, noW, ↓oneK, ↓pureK, ↓heapK, envOf, ↓thenA_normal, ↓blockA_normal, ↓stepEv, opnd, Pg.look, binK, intOp, dstOf, Bool.and_true, Bool.false_eq_true, implies_true, imp_self, true_and, and_true, pickC, pickV, unc, gof, mux, mergeK, condsL, valV, heapV, footV, binV, intV, alives, aliveO, nxtQ, hdS, pairsA, frzA, closeQ_nil, closeQ_succ, diagQ_zero, diagQ_succ, Nat.reduceAdd, mergeable, look_stripE, ofV, ofLeaf, sameK, retA, resK, tupA, subA, subQ, ptrsE, pairsO, frzO, subF, subG, pickOf, pairsE, pairsC, pairsL, pairs0, frzE, frzC, frzL, frz0, frzH, Pg.freeze, List.foldl_nil, subOs, subO, subEv, subV_succ, subM, subL, ldCells, objAt, ↓callT, callC, callV, callH, normArgs, normA, normC, normL, resL, res8_eq, res_succ, resM, shiftR, shift1, AV.cells, TK.cells, AV.definite, AV.leaf, AV.leafy, AV.pureLeaf, AV.pureB, putCells, lay, Op.operands, List.getElem?_toArray, List.getElem?_cons_succ, List.getElem?_cons_zero, Option.bind_some, Option.map_some, Option.getD_some, reduceCtorEq, Nat.reduceEqDiff, Nat.reduceAdd, Nat.reduceLT, List.nil_append, List.append_nil, List.cons_append, List.length_cons, List.length_nil, List.map_cons, List.map_nil, List.set_cons_zero, List.set_cons_succ, Nat.zero_add, ite_true, ite_false, Option.some.injEq, Option.isSome_some, Bool.if_false_right, decide_eq_true_eq, decide_eq_false_iff_not, Int.not_le, List.all_cons, List.all_nil, Bool.and_self, and_self, exists_eq_left', cInt_dec, List.toList_toArray, cSl_dec, cAgg_dec, lOne_dec, lCons_dec, dec2_some, List.contains_nil, beq_self_eq_true, List.range'_zero, decL_str, C1by_ns, C1by_pre, C1by_r, C1by_H, optP_some, optV_some, optH_some, List.getD_cons_zero, cutL, List.drop_zero, List.drop_succ_cons, List.take_succ_cons, List.take_zero, Nat.add_zero, Nat.sub_zero, Nat.le_refl, List.drop_nil, List.take_nil, Nat.zero_lt_succ, C1by_it, regH_none, isNext, nextF, nextG, selC_false, ↓msel, muC, ↓callP, C1by_mu, findE_byte, keys_byte, ↓mapK, mapAt, isKeyA, kdT, hasE, lookV, tk52, tz52, dz52, tk90, mt90, tk92, dz92, kRgClone, c0, c1, hw, hk, cRgV_enc, hvl]
        refine ⟨by decide, subX_one' ?_⟩
        simp (maxSteps := 4000000) only [subV_succ, subM, subL, AV.cells, List.getElem?_cons_succ, List.getElem?_cons_zero, and_self]
    | false =>
      rw [hu] at c1
      have hg : gname b = b := by unfold gname; rw [if_neg h0, if_neg (by rw [hu]; simp)]
      rw [hg] at hl ⊢
      cases hk : look1 b l with
      | none =>
        simp (maxSteps := 4000000) only [↓wpA_H, ↓wpH_skip, ↓wpH_ret, ↓wpH_seq, ↓wpH_cond, ↓wpH_block, ↓wpH_region, ↓iselH_false, bselH_false, runH_nil, runH_cons, gw, gselH_plain, gselH_if, kselH_1, cselH_bool, gkind, ↓chk, justK, noW, ↓oneK, ↓pureK, ↓heapK, envOf, ↓thenA_normal, ↓blockA_normal, ↓stepEv, opnd, Pg.look, binK, intOp, dstOf, Bool.and_true, Bool.false_eq_true, implies_true, imp_self, true_and, and_true, pickC, pickV, unc, gof, mux, mergeK, condsL, valV, heapV, footV, binV, intV, alives, aliveO, nxtQ, hdS, pairsA, frzA, closeQ_nil, closeQ_succ, diagQ_zero, diagQ_succ, Nat.reduceAdd, mergeable, look_stripE, ofV, ofLeaf, sameK, retA, resK, tupA, subA, subQ, ptrsE, pairsO, frzO, subF, subG, pickOf, pairsE, pairsC, pairsL, pairs0, frzE, frzC, frzL, frz0, frzH, Pg.freeze, List.foldl_nil, subOs, subO, subEv, subV_succ, subM, subL, ldCells, objAt, ↓callT, callC, callV, callH, normArgs, normA, normC, normL, resL, res8_eq, res_succ, resM, shiftR, shift1, AV.cells, TK.cells, AV.definite, AV.leaf, AV.leafy, AV.pureLeaf, AV.pureB, putCells, lay, Op.operands, List.getElem?_toArray, List.getElem?_cons_succ, List.getElem?_cons_zero, Option.bind_some, Option.map_none, Option.getD_some, Option.getD_none, reduceCtorEq, Nat.reduceEqDiff, Nat.reduceAdd, Nat.reduceLT, List.nil_append, List.append_nil, List.cons_append, List.length_cons, List.length_nil, List.map_cons, List.map_nil, List.set_cons_zero, List.set_cons_succ, Nat.zero_add, ite_true, ite_false, Option.some.injEq, Option.isSome_none, Bool.if_false_right, decide_eq_true_eq, decide_eq_false_iff_not, Int.not_le, List.all_cons, List.all_nil, Bool.and_self, and_self, exists_eq_left', cInt_dec, List.toList_toArray, cSl_dec, cAgg_dec, lOne_dec, lCons_dec, dec2_some, List.contains_nil, beq_self_eq_true, decL_nil, List.range'_zero, C1by_ns, C1by_pre, C1by_r, C1by_H, optP_some, optV_some, optH_some, List.getD_cons_zero, cutL, List.drop_zero, List.drop_succ_cons, List.take_succ_cons, List.take_zero, Nat.add_zero, Nat.sub_zero, Nat.le_refl, List.drop_nil, List.take_nil, Nat.zero_lt_succ, Nat.zero_le, C1by_it, regH_none, isNext, nextF, nextG, selC_false, ↓msel, muC, ↓callP, C1by_mu, findE_byte, keys_byte, ↓mapK, mapAt, isKeyA, kdT, hasE, lookV, tk52, tz52, dz52, tk90, mt90, tk92, dz92, kRgClone, c0, c1, hk]
        refine ⟨by decide, subX_one' ?_⟩
        simp (maxSteps := 4000000) only [subV_succ, subM, subL, AV.cells, List.getElem?_cons_succ, List.getElem?_cons_zero, and_self]
      | some v =>
        obtain ⟨vk, vl⟩ := v
        have hvl : vl.length ≤ 4398046511104 := hl _ hk
        simp (maxSteps := 4000000) only [↓wpA_H, ↓wpH_skip, ↓wpH_ret, ↓wpH_seq, ↓wpH_cond, ↓wpH_block, ↓wpH_region, ↓iselH_false, bselH_false, runH_nil, runH_cons, gw, gselH_plain, gselH_if, kselH_1, cselH_bool, gkind, ↓chk, justK, noW, ↓oneK, ↓pureK, ↓heapK, envOf, ↓thenA_normal, ↓blockA_normal, ↓stepEv, opnd, Pg.look, binK, intOp, dstOf, Bool.and_true, Bool.false_eq_true, implies_true, imp_self, true_and, and_true, pickC, pickV, unc, gof, mux, mergeK, condsL, valV, heapV, footV, binV, intV, alives, aliveO, nxtQ, hdS, pairsA, frzA, closeQ_nil, closeQ_succ, diagQ_zero, diagQ_succ, Nat.reduceAdd, mergeable, look_stripE, ofV, ofLeaf, sameK, retA, resK, tupA, subA, subQ, ptrsE, pairsO, frzO, subF, subG, pickOf, pairsE, pairsC, pairsL, pairs0, frzE, frzC, frzL, frz0, frzH, Pg.freeze, List.foldl_nil, subOs, subO, subEv, subV_succ, subM, subL, ldCells, objAt, ↓callT, callC, callV, callH, normArgs, normA, normC, normL, resL, res8_eq, res_succ, resM, shiftR, shift1, AV.cells, TK.cells, AV.definite, AV.leaf, AV.leafy, AV.pureLeaf, AV.pureB, putCells, lay, Op.operands, List.getElem?_toArray, List.getElem?_cons_succ, List.getElem?_cons_zero, Option.bind_some, Option.map_some, Option.getD_some, reduceCtorEq, Nat.reduceEqDiff, Nat.reduceAdd, Nat.reduceLT, List.nil_append, List.append_nil, List.cons_append, List.length_cons, List.length_nil, List.map_cons, List.map_nil, List.set_cons_zero, List.set_cons_succ, Nat.zero_add, ite_true, ite_false, Option.some.injEq, Option.isSome_some, Bool.if_false_right, decide_eq_true_eq, decide_eq_false_iff_not, Int.not_le, List.all_cons, List.all_nil, Bool.and_self, and_self, exists_eq_left', cInt_dec, List.toList_toArray, cSl_dec, cAgg_dec, lOne_dec, lCons_dec, dec2_some, List.contains_nil, beq_self_eq_true, List.range'_zero, decL_str, C1by_ns, C1by_pre, C1by_r, C1by_H, optP_some, optV_some, optH_some, List.getD_cons_zero, cutL, List.drop_zero, List.drop_succ_cons, List.take_succ_cons, List.take_zero, Nat.add_zero, Nat.sub_zero, Nat.le_refl, List.drop_nil, List.take_nil, Nat.zero_lt_succ, C1by_it, regH_none, isNext, nextF, nextG, selC_false, ↓msel, muC, ↓callP, C1by_mu, findE_byte, keys_byte, ↓mapK, mapAt, isKeyA, kdT, hasE, lookV, tk52, tz52, dz52, tk90, mt90, tk92, dz92, kRgClone, c0, c1, hk, cRgV_enc, hvl]
        refine ⟨by decide, subX_one' ?_⟩
        simp (maxSteps := 4000000) only [subV_succ, subM, subL, AV.cells, List.getElem?_cons_succ, List.getElem?_cons_zero, and_self]
def kRGet : C1 := C1.mby (hCons hFile (hCons (hP .id cByte) hNil)) (fun d => ∀ v, look1 (gname d.2.1) d.1.1 = some v → v.2.length ≤ 4398046511104)
  (fun d => .tuple [aRg ((look1 (gname d.2.1) d.1.1).getD (0, [])), .bool (look1 (gname d.2.1) d.1.1).isSome]) (fun d => rgH d.1.1)
theorem ok_RGet : C1OK Try.prog 35 kRGet := C1OK.mby (by kernel_rfl) (fun d h => calls_RGet d.1.1 d.2.1 h) (fun _ _ => Nat.le_refl _)
end Go.Pg
