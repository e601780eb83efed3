/- The document's marks: set, asked, moved. maps.Clone; the marks are moved. -/
import Derived.Test.YtohpkjpipihdoaaPgFx0
import Derived.Shelf.SlMaps.Clone
namespace Go.Pg
open Go Go.Proofs

def aPs (l : List (Int × Int)) : List AV := l.map fun p => .agg [.int .i64 p.1, .int .i64 p.2]
theorem length_aPs (l : List (Int × Int)) : (aPs l).length = l.length := by simp [aPs]
theorem take_aPs (l : List (Int × Int)) (n : Nat) : (aPs l).take n = aPs (l.take n) := by simp [aPs, List.map_take]
theorem drop_aPs (l : List (Int × Int)) (n : Nat) : (aPs l).drop n = aPs (l.drop n) := by simp [aPs, List.map_drop]
theorem app_aPs (l m : List (Int × Int)) : aPs l ++ aPs m = aPs (l ++ m) := by simp [aPs]
theorem app1_aPs (l : List (Int × Int)) (a b : Int) : aPs l ++ [.agg [.int .i64 a, .int .i64 b]] = aPs (l ++ [(a, b)]) := by simp [aPs]
theorem cons_aPs (l : List (Int × Int)) (a b : Int) : .agg [.int .i64 a, .int .i64 b] :: aPs l = aPs ((a, b) :: l) := by simp [aPs]
theorem set_aPs (l : List (Int × Int)) (i : Nat) (a b : Int) : (aPs l).set i (.agg [.int .i64 a, .int .i64 b]) = aPs (l.set i (a, b)) := by simp [aPs, List.map_set]
theorem getD_aPs (l : List (Int × Int)) (i : Nat) : (aPs l).getD i (.agg [.int .i64 0, .int .i64 0]) = .agg [.int .i64 (l.getD i (0, 0)).1, .int .i64 (l.getD i (0, 0)).2] := getD_map (fun p : Int × Int => AV.agg [.int .i64 p.1, .int .i64 p.2]) l i (0, 0)
theorem pureB_aPs (l : List (Int × Int)) : (aPs l).all AV.pureB = true := by simp [aPs, AV.pureB, AV.cells, AV.pureLeaf]
theorem leafy_aPs (l : List (Int × Int)) : (aPs l).all AV.leafy = true := by simp [aPs, AV.leafy, AV.cells, AV.leaf]
theorem decL_aPs (l : List (Int × Int)) : decL cPos.dec (aPs l) = some l := decL_enc cPos cPos_ed l
theorem cons_ofBytes (b : UInt8) (l : List UInt8) : .int .u8 b.toNat :: ofBytes l = ofBytes (b :: l) := by simp [ofBytes]
theorem cByte_pure (b : UInt8) : (cByte.enc b).pureB = true := rfl
theorem cPos_pure (p : Int × Int) : (cPos.enc p).pureB = true := rfl

theorem neL_bytes (b : UInt8) (l : List UInt8) : neL (ofBytes (b :: l)) = true := rfl
theorem neL_aPs (p : Int × Int) (l : List (Int × Int)) : neL (aPs (p :: l)) = true := rfl
theorem one_add' (n : Nat) : 1 + n = n + 1 := Nat.add_comm 1 n

def hRef : HC (List UInt8 × List (Int × Int) × Unit) := hPtr 35 2 (hCons (hOwn 5 1 cByte cByte_pure) (hCons (hOwn 37 2 cPos cPos_pure) hNil))
abbrev rH (n : List UInt8) (p : List (Int × Int)) : AH := [.arr 35 2 [.agg [.own 1 1 n.length, .own 2 2 p.length]], .arr 5 1 (ofBytes n), .arr 37 2 (aPs p)]
/-- The same behind a change: the lists are new ones. -/
abbrev rH' (n : List UInt8) (p : List (Int × Int)) : AH := [.arr 35 2 [.agg [.own 3 1 n.length, .own 4 2 p.length]], .dead, .dead, .arr 5 1 (ofBytes n), .arr 37 2 (aPs p)]

/-- How many names stand ahead of one. -/
def lead (b : UInt8) (n : List UInt8) : Nat := (n.takeWhile (fun c => decide (c.toNat < b.toNat))).length
def rSet (n : List UInt8) (ps : List (Int × Int)) (b : UInt8) (p : Int × Int) : List UInt8 × List (Int × Int) :=
  if n.getD (lead b n) 0 = b ∧ lead b n < n.length then (n, ps.set (lead b n) p) else (n.take (lead b n) ++ b :: n.drop (lead b n), ps.take (lead b n) ++ p :: ps.drop (lead b n))

theorem nameOk13_eq (b : UInt8) : (decide ((b.toNat : Int) ≥ 97) && decide ((b.toNat : Int) ≤ 122) || (b.toNat : Int) == 96) = nameOk b := by
  have h1 : ((b.toNat : Int) == 96) = (b == 96) := by
    rw [Bool.eq_iff_iff]
    simp only [beq_iff_eq]
    constructor
    · intro h; exact UInt8.toNat_inj.1 (by have : b.toNat = 96 := by omega
                                           rw [this]; rfl)
    · intro h; subst h; rfl
  have h2 : decide ((b.toNat : Int) ≥ 97) = decide (97 ≤ b.toNat) := by rw [Bool.eq_iff_iff]; simp; omega
  have h3 : decide ((b.toNat : Int) ≤ 122) = decide (b.toNat ≤ 122) := by rw [Bool.eq_iff_iff]; simp; omega
  rw [h1, h2, h3, nameOk, Bool.or_comm]

theorem lead_le (b : UInt8) (n : List UInt8) : lead b n ≤ n.length := (List.takeWhile_sublist _).length_le
theorem lead_lt (b : UInt8) (n : List UInt8) (k : Nat) (h : k < lead b n) : (n.getD k 0).toNat < b.toNat := by
  induction n generalizing k with
  | nil => simp [lead] at h
  | cons c n ih =>
    simp only [lead, List.takeWhile_cons] at h ih
    split at h
    · next hc =>
      cases k with
      | zero => simpa using hc
      | succ k => simpa using ih k (by simpa using h)
    · simp at h
theorem lead_at (b : UInt8) (n : List UInt8) (h : lead b n < n.length) : ¬ (n.getD (lead b n) 0).toNat < b.toNat := by
  induction n with
  | nil => simp at h
  | cons c n ih =>
    simp only [lead, List.takeWhile_cons] at h ih ⊢
    split at h
    · next hc => rw [if_pos hc]; simpa using ih (by simpa using h)
    · next hc => rw [if_neg hc]; simpa using hc

set_option maxRecDepth 20000 in
set_option maxHeartbeats 4000000 in
theorem calls_Set13 (n : List UInt8) (ps : List (Int × Int)) (b : UInt8) (p : Int × Int) (hl : n.length = ps.length) (hn : n.length ≤ 1000) :
    CallsR Try.prog 20 [.ptr 0 2 1 0 0, .int .u8 b.toNat, .agg [.int .i64 p.1, .int .i64 p.2]] (rH n ps)
      (.bool (nameOk b)) (rH' (if nameOk b = true then rSet n ps b p else (n, ps)).1 (if nameOk b = true then rSet n ps b p else (n, ps)).2) := by
  refine callsR_of (mrg := true) (dyn := [9, 10]) (CtrOK.nil _) mixed Try.func20 rfl (by simp [Try.ntmps20]) (by kernel_rfl) ?_
  rw [show Try.f20.results.toList = [.tmp 6] from by kernel_rfl]
  cases hb : nameOk b with
  | false =>
    simp (maxSteps := 4000000) only [↓wpA_H, ↓wpH_ret, ↓wpH_seq, ↓wpH_cond, ↓wpH_region, ↓iselH_true, bselH_false, runH_nil, runH_cons, gw, gselH_plain, gselH_if, kselH_1, cselH_bool, gkind, ↓chk, justK, noW, ↓oneK, ↓pureK, ↓heapK, envOf, ↓thenA_normal, ↓thenA_ret, ↓stepEv, opnd, Pg.look, binK, intOp, dstOf, Bool.and_true, Bool.not_false, Bool.false_eq_true, implies_true, imp_self, true_and, and_true, pickC, pickV, unc, gof, mux, mergeK, condsL, valV, heapV, footV, binV, intV, alives, aliveO, nxtQ, hdS, pairsA, frzA, closeQ_nil, closeQ_succ, diagQ_zero, diagQ_succ, Nat.reduceAdd, mergeable, look_stripE, ofV, ofLeaf, sameK, retA, resK, tupA, subA, subQ, ptrsE, pairsO, frzO, subF, subG, pickOf, assocN, pairsE, pairsC, pairsL, pairs0, frzE, frzC, frzL, frz0, frzH, Pg.freeze, List.foldl_nil, subOs, subO, subEv, subV_succ, subM, AV.cells, AV.definite, AV.pureLeaf, AV.pureB, Op.operands, List.getElem?_toArray, List.getElem?_cons_succ, List.getElem?_cons_zero, Option.bind_some, reduceCtorEq, Nat.reduceEqDiff, Nat.reduceAdd, Nat.reduceLT, List.nil_append, List.append_nil, List.cons_append, List.length_cons, List.length_nil, Nat.zero_add, ite_true, ite_false, Bool.if_false_right, Bool.if_true_left, Bool.decide_eq_true, decide_eq_true_eq, decide_eq_false_iff_not, Int.not_le, List.all_cons, List.all_nil, Bool.and_self, and_self, Bool.not_eq_true', List.toList_toArray, pureB_bytes, List.contains_cons, List.contains_nil, Nat.reduceBEq, Bool.or_self, Nat.lt_irrefl, Nat.zero_lt_succ, regH_none, isNext, nextF, nextG, selC_false, nameOk13_eq, hb, pureB_aPs, rH, rH']
    refine ⟨by decide, subX_one ?_, subX_eq rfl (pureB_bytes _), subX_eq rfl (pureB_aPs _)⟩
    simp (maxSteps := 4000000) only [subV_succ, subM, subL, AV.cells, List.getElem?_cons_succ, List.getElem?_cons_zero, and_self]
  | true =>
    simp (maxSteps := 4000000) only [↓wpA_H, ↓wpH_skip, ↓wpH_seq, ↓wpH_cond, ↓wpH_block, ↓wpH_loop, ↓wpH_region, ↓iselH_false, bselH_false, runH_nil, runH_cons, gw, gselH_plain, gselH_if, kselH_1, cselH_bool, gkind, ↓chk, justK, noW, ↓oneK, ↓pureK, ↓heapK, envOf, ↓thenA_normal, ↓stepEv, opnd, Pg.look, binK, intOp, dstOf, Bool.not_true, Bool.false_eq_true, implies_true, imp_self, true_and, and_true, pickC, pickV, unc, gof, mux, mergeK, condsL, valV, heapV, footV, binV, intV, Nat.reduceAdd, mergeable, look_stripE, ofV, ofLeaf, sameK, AV.cells, AV.definite, Op.operands, List.getElem?_toArray, List.getElem?_cons_succ, List.getElem?_cons_zero, Option.bind_some, reduceCtorEq, Nat.reduceEqDiff, Nat.reduceAdd, List.nil_append, List.cons_append, List.length_cons, List.length_nil, Nat.zero_add, ite_true, ite_false, Bool.if_false_right, Bool.if_true_left, Bool.decide_eq_true, decide_eq_true_eq, decide_eq_false_iff_not, Int.not_le, Bool.and_self, and_self, Bool.not_eq_true', List.toList_toArray, List.contains_cons, List.contains_nil, Nat.reduceBEq, Bool.or_self, regH_none, isNext, nextF, nextG, selC_false, nameOk13_eq, hb, rH]
    have hlead := lead_le b n
    refine loopH_intro (α := Nat) (fun k => ([(7, .int .i64 k), (6, .bool false), (5, .ptr 3 2 1 0 0), (0, .ptr 0 2 1 0 0), (1, .int .u8 b.toNat)], [.arr 35 2 [.agg [.own 1 1 n.length, .own 2 2 ps.length]], .arr 5 1 (ofBytes n), .arr 37 2 (aPs ps), .arr 37 2 [.agg [.int .i64 p.1, .int .i64 p.2]]]))
      (fun k => k ≤ lead b n) (fun k => lead b n - k) 0 (by omega) ?_ ?_
    · simp (maxSteps := 4000000) only [Pg.look, Bool.and_true, Bool.false_eq_true, true_and, and_true, alives, aliveO, nxtQ, hdS, pairsA, frzA, closeQ_nil, closeQ_succ, diagQ_zero, diagQ_succ, Nat.reduceAdd, subA, subQ, ptrsE, pairsO, frzO, subF, subG, pickOf, assocN, pairsE, pairsC, pairsL, pairs0, frzE, frzC, frzL, frz0, frzH, Pg.freeze, List.foldl_nil, subOs, subO, subEv, subV_succ, subM, AV.cells, AV.pureLeaf, AV.pureB, List.getElem?_cons_succ, List.getElem?_cons_zero, reduceCtorEq, Nat.reduceEqDiff, Nat.reduceAdd, Nat.reduceLT, List.nil_append, List.append_nil, List.cons_append, Nat.zero_add, ite_true, ite_false, List.all_cons, List.all_nil, Bool.and_self, and_self, pureB_bytes, Int.cast_ofNat_Int, Nat.lt_irrefl, Nat.zero_lt_succ, pureB_aPs]
      refine ⟨by decide, subX_one ?_, subX_eq rfl (pureB_bytes _), subX_eq rfl (pureB_aPs _), subX_one ?_⟩
      all_goals simp (maxSteps := 4000000) only [subV_succ, subM, subL, AV.cells, List.getElem?_cons_succ, List.getElem?_cons_zero, and_self]
    intro k hk
    by_cases hlt : k < lead b n
    · have h1 := lead_lt b n k hlt
      have hc1 : decide ((k : Int) < (n.length : Int)) = true := decide_eq_true (by omega)
      have hc2 : decide (((n.getD k 0).toNat : Int) < (b.toNat : Int)) = true := decide_eq_true (by omega)
      have w1 : IntKind.i64.wrap ((k : Int) + 1) = ((k + 1 : Nat) : Int) := by rw [wrap64 (by omega) (by omega)]; omega
      simp (maxSteps := 4000000) only [↓wpA_H, ↓wpH_skip, ↓wpH_seq, ↓wpH_cond, ↓wpH_block, ↓wpH_region, ↓iselH_true, bselH_false, runH_nil, runH_cons, gw, gselH_plain, gselH_if, kselH_1, cselH_bool, gkind, ↓chk, justK, noW, ↓oneK, ↓pureK, ↓heapK, ↓thenA_normal, ↓blockA_normal, ↓stepEv, opnd, Pg.look, binK, intOp, dstOf, Bool.and_true, Bool.not_true, Bool.false_eq_true, Bool.true_eq_false, implies_true, true_and, and_true, forall_const, pickC, pickV, unc, gof, mux, mergeK, condsL, valV, heapV, footV, binV, intV, alives, aliveO, nxtQ, hdS, pairsA, frzA, closeQ_nil, closeQ_succ, diagQ_zero, diagQ_succ, Nat.reduceAdd, mergeable, look_stripE, ofV, ofLeaf, sameK, subA, subQ, ptrsE, pairsO, frzO, subF, subG, pickOf, assocN, pairsE, pairsC, pairsL, pairs0, frzE, frzC, frzL, frz0, frzH, Pg.freeze, List.foldl_nil, subOs, subO, subEv, subV_succ, subM, slen, ldCells, objAt, AV.cells, TK.cells, AV.pureLeaf, AV.pureB, Op.operands, List.getElem?_toArray, List.getElem?_cons_succ, List.getElem?_cons_zero, Option.bind_some, Option.getD_some, reduceCtorEq, Nat.reduceEqDiff, Nat.reduceAdd, Nat.reduceLT, List.nil_append, List.append_nil, List.cons_append, List.length_cons, List.length_nil, Nat.zero_add, ite_true, ite_false, Option.some.injEq, AV.int.injEq, List.all_cons, List.all_nil, Bool.and_self, and_self, exists_eq_left', List.toList_toArray, length_ofBytes, getD_ofBytes, pureB_bytes, List.contains_cons, List.contains_nil, Nat.reduceBEq, Bool.or_self, Int.toNat_natCast, List.getD_cons_zero, Nat.add_zero, Nat.lt_irrefl, Nat.zero_lt_succ, regH_none, isNext, nextF, nextG, selC_false, tk5, dz5, tk32, tk35, dz35, pureB_aPs, hc1, hc2, w1]
      refine ⟨⟨by omega, by omega⟩, by omega, k + 1, by omega, by omega, by decide, ⟨subX_one ?_, subX_eq rfl (pureB_bytes _), subX_eq rfl (pureB_aPs _), subX_one ?_⟩, rfl⟩
      all_goals simp (maxSteps := 4000000) only [subV_succ, subM, subL, AV.cells, List.getElem?_cons_succ, List.getElem?_cons_zero, and_self]
    · obtain rfl : k = lead b n := by omega
      by_cases hend : lead b n < n.length
      · have h1 := lead_at b n hend
        have hc1 : decide ((lead b n : Int) < (n.length : Int)) = true := decide_eq_true (by omega)
        have hc2 : decide (((n.getD (lead b n) 0).toNat : Int) < (b.toNat : Int)) = false := decide_eq_false (by omega)
        have hc3 : (((n.getD (lead b n) 0).toNat : Int) == (b.toNat : Int)) = decide (n.getD (lead b n) 0 = b) := by
          rw [Bool.eq_iff_iff]
          simp only [beq_iff_eq, decide_eq_true_eq]
          exact ⟨fun h => UInt8.toNat_inj.1 (by omega), fun h => by rw [h]⟩
        simp (maxSteps := 4000000) only [↓wpA_H, ↓wpH_skip, ↓wpH_ret, ↓wpH_exit, ↓wpH_seq, ↓wpH_cond, ↓wpH_region, bselH_true, ↓iselH_false, iselH_if, bselH_false, runH_nil, runH_cons, gw, gselH_plain, gselH_if, kselH_1, cselH_bool, gkind, ↓chk, justK, noW, ↓oneK, ↓pureK, ↓heapK, ↓thenA_normal, ↓thenA_ret, ↓thenA_exit, ↓blockA_exit, ↓stepEv, opnd, Pg.look, binK, intOp, dstOf, Bool.and_true, Bool.not_true, Bool.false_eq_true, Bool.true_eq_false, implies_true, true_and, and_true, forall_const, pickC, pickV, unc, gof, mux, mergeK, condsL, valV, heapV, footV, binV, intV, cutV, cutM, alives, aliveO, nxtQ, nsel_true, hdS, pairsA, frzA, closeQ_nil, closeQ_succ, diagQ_zero, diagQ_succ, Nat.reduceAdd, mergeable, look_stripE, ofV, ofLeaf, sameK, retA, resK, tupA, subA, subQ, ptrsE, pairsO, frzO, subF, subG, pickOf, assocN, pairsE, pairsC, pairsL, pairs0, frzE, frzC, frzL, frz0, frzH, Pg.freeze, List.foldl_nil, List.foldl_cons, subOs, subO, subEv, subV_succ, subM, slen, srcV, srcL, srcE, appK, ldCells, objAt, sliceL, ↓sliceOwn, AV.cells, TK.cells, AV.definite, AV.leaf, AV.leafy, AV.pureLeaf, AV.pureB, putCells, lay, frzAt, Op.operands, List.getElem?_toArray, List.getElem?_cons_succ, List.getElem?_cons_zero, Option.bind_some, Option.map_some, Option.map_none, Option.getD_some, reduceCtorEq, Nat.reduceEqDiff, Nat.reduceAdd, Nat.reduceLT, List.nil_append, List.append_nil, List.cons_append, List.length_cons, List.length_nil, List.map_cons, List.map_nil, List.set_cons_zero, List.set_cons_succ, Nat.zero_add, ite_true, ite_false, Option.some.injEq, Option.isSome_some, AV.int.injEq, Prod.mk.injEq, decide_eq_true_eq, decide_eq_false_iff_not, not_false_eq_true, List.all_cons, List.all_nil, Bool.and_self, and_self, exists_eq_left', List.toList_toArray, rg1, not_mem_nil, length_ofBytes, take_ofBytes, drop_ofBytes, getD_ofBytes, app_ofBytes, pureB_bytes, leafy_bytes, List.contains_cons, List.contains_nil, Nat.reduceBEq, Bool.or_self, Bool.or_false, beq_self_eq_true, Bool.or_true, Nat.reducePow, Int.toNat_natCast, List.getD_cons_zero, cutL, List.drop_zero, List.drop_succ_cons, List.take_succ_cons, List.take_zero, Nat.add_zero, Nat.sub_zero, Nat.reduceLeDiff, Nat.le_refl, Nat.lt_irrefl, Nat.mul_one, Nat.one_mul, List.drop_nil, List.take_nil, Nat.zero_lt_succ, regH_none, isNext, nextF, nextG, selC_true, selC_false, pureC, tk5, dz5, eb5, tk32, tk33, tk35, dz35, tk37, dz37, eb37, length_aPs, pureB_aPs, leafy_aPs, hc1, hc2, hc3, set_aPs, getD_aPs, take_aPs, drop_aPs, app_aPs, cons_ofBytes, cons_aPs, neL_bytes, neL_aPs, one_add']
        refine ⟨⟨by omega, by omega⟩, by omega, ⟨by omega, by omega⟩, by omega, fun he => ?_, fun he => ?_⟩
        · have hr : rSet n ps b p = (n, ps.set (lead b n) p) := if_pos ⟨he, hend⟩
          rw [hr]
          refine ⟨⟨by omega, by omega⟩, by omega, by decide, subX_one ?_, subX_eq rfl (pureB_bytes _), subX_eq rfl (pureB_aPs _)⟩
          simp (maxSteps := 4000000) only [subV_succ, subM, subL, AV.cells, List.getElem?_cons_succ, List.getElem?_cons_zero, and_self, List.length_set]
        · have hr : rSet n ps b p = (n.take (lead b n) ++ b :: n.drop (lead b n), ps.take (lead b n) ++ p :: ps.drop (lead b n)) := if_neg (fun h => he h.1)
          rw [hr]
          simp only [List.length_drop, List.length_take]
          refine ⟨⟨by omega, by omega⟩, ⟨by omega, by omega⟩, by omega, by omega, by kernel_rfl, ⟨by omega, by omega⟩, ⟨by omega, by omega⟩, by omega, by omega, by kernel_rfl, by decide, subX_one ?_, subX_eq rfl (pureB_bytes _), subX_eq rfl (pureB_aPs _)⟩
          simp (maxSteps := 4000000) only [subV_succ, subM, subL, AV.cells, List.getElem?_cons_succ, List.getElem?_cons_zero, List.length_cons, and_self, List.length_append, List.length_drop, List.length_take]
          done
      · have hc1 : decide ((lead b n : Int) < (n.length : Int)) = false := decide_eq_false (by omega)
        simp (maxSteps := 4000000) only [↓wpA_H, ↓wpH_skip, ↓wpH_ret, ↓wpH_exit, ↓wpH_seq, ↓wpH_cond, ↓wpH_region, bselH_true, ↓iselH_false, bselH_false, runH_nil, runH_cons, gw, gselH_plain, gselH_if, kselH_1, cselH_bool, gkind, ↓chk, justK, noW, ↓oneK, ↓pureK, ↓heapK, ↓thenA_normal, ↓thenA_exit, ↓blockA_exit, ↓stepEv, opnd, Pg.look, binK, intOp, dstOf, Bool.and_true, Bool.not_false, Bool.false_eq_true, false_implies, implies_true, imp_self, true_and, and_true, forall_const, pickC, pickV, unc, gof, mux, mergeK, condsL, valV, heapV, footV, binV, intV, cutV, cutM, alives, aliveO, nxtQ, nsel_true, hdS, pairsA, frzA, closeQ_nil, closeQ_succ, diagQ_zero, diagQ_succ, Nat.reduceAdd, mergeable, look_stripE, ofV, ofLeaf, sameK, retA, resK, tupA, subA, subQ, ptrsE, pairsO, frzO, subF, subG, pickOf, assocN, pairsE, pairsC, pairsL, pairs0, frzE, frzC, frzL, frz0, frzH, Pg.freeze, List.foldl_nil, List.foldl_cons, subOs, subO, subEv, subV_succ, subM, slen, srcV, srcL, srcE, appK, ldCells, objAt, sliceL, ↓sliceOwn, AV.cells, TK.cells, AV.definite, AV.leaf, AV.leafy, AV.pureLeaf, AV.pureB, putCells, lay, frzAt, Op.operands, List.getElem?_toArray, List.getElem?_cons_succ, List.getElem?_cons_zero, Option.bind_some, Option.map_some, Option.map_none, Option.getD_some, reduceCtorEq, Nat.reduceEqDiff, Nat.reduceAdd, Nat.reduceLT, List.nil_append, List.append_nil, List.cons_append, List.length_cons, List.length_nil, List.map_cons, List.map_nil, List.set_cons_zero, List.set_cons_succ, Nat.zero_add, ite_true, ite_false, Option.some.injEq, Option.isSome_some, AV.int.injEq, Prod.mk.injEq, not_false_eq_true, List.all_cons, List.all_nil, Bool.and_self, and_self, exists_eq_left', List.toList_toArray, rg1, not_mem_nil, length_ofBytes, take_ofBytes, drop_ofBytes, getD_ofBytes, app_ofBytes, pureB_bytes, leafy_bytes, List.contains_cons, List.contains_nil, Nat.reduceBEq, Bool.or_self, Bool.or_false, beq_self_eq_true, Bool.or_true, Nat.reducePow, Int.toNat_natCast, List.getD_cons_zero, cutL, List.drop_zero, List.drop_succ_cons, List.take_succ_cons, List.take_zero, Nat.add_zero, Nat.sub_zero, Nat.reduceLeDiff, Nat.le_refl, Nat.lt_irrefl, Nat.mul_one, Nat.one_mul, List.drop_nil, List.take_nil, Nat.zero_lt_succ, regH_none, isNext, nextF, nextG, selC_false, tk5, dz5, eb5, tk32, tk33, tk35, dz35, tk37, dz37, eb37, length_aPs, pureB_aPs, leafy_aPs, hc1, take_aPs, drop_aPs, app_aPs, cons_ofBytes, cons_aPs, neL_bytes, neL_aPs, one_add']
        have hr : rSet n ps b p = (n.take (lead b n) ++ b :: n.drop (lead b n), ps.take (lead b n) ++ p :: ps.drop (lead b n)) := if_neg (fun h => hend h.2)
        rw [hr]
        simp only [List.length_drop, List.length_take]
        refine ⟨⟨by omega, by omega⟩, ⟨by omega, by omega⟩, by omega, by omega, by kernel_rfl, ⟨by omega, by omega⟩, ⟨by omega, by omega⟩, by omega, by omega, by kernel_rfl, by decide, subX_one ?_, subX_eq rfl (pureB_bytes _), subX_eq rfl (pureB_aPs _)⟩
        simp (maxSteps := 4000000) only [subV_succ, subM, subL, AV.cells, List.getElem?_cons_succ, List.getElem?_cons_zero, List.length_cons, and_self, List.length_append, List.length_drop, List.length_take]
        done

def kSet13 : C1 := C1.mby (hCons hRef (hCons (hP .id cByte) (hCons (hP .id cPos) hNil))) (fun d => d.1.1.length = d.1.2.1.length ∧ d.1.1.length ≤ 1000) (fun d => .bool (nameOk d.2.1))
  (fun d => rH' (if nameOk d.2.1 = true then rSet d.1.1 d.1.2.1 d.2.1 d.2.2.1 else (d.1.1, d.1.2.1)).1 (if nameOk d.2.1 = true then rSet d.1.1 d.1.2.1 d.2.1 d.2.2.1 else (d.1.1, d.1.2.1)).2)
theorem ok_Set13 : C1OK Try.prog 20 kSet13 := C1OK.mby (by kernel_rfl) (fun d h => calls_Set13 d.1.1 d.1.2.1 d.2.1 d.2.2.1 h.1 h.2) (fun _ _ => by show 3 ≤ 5; omega)

def rGet (b : UInt8) : List UInt8 → List (Int × Int) → Option (Int × Int)
  | c :: n, p :: ps => if c = b then some p else rGet b n ps
  | _, _ => none
theorem rGet_drop (b : UInt8) : ∀ (n : List UInt8) (ps : List (Int × Int)) (k : Nat), n.length = ps.length → k < n.length → rGet b (n.drop k) (ps.drop k) = if n.getD k 0 = b then some (ps.getD k (0, 0)) else rGet b (n.drop (k + 1)) (ps.drop (k + 1)) := by
  intro n
  induction n with
  | nil => intro ps k _ h; simp at h
  | cons c n ih =>
    intro ps k hl hk
    cases ps with
    | nil => simp at hl
    | cons p ps =>
      cases k with
      | zero => rfl
      | succ k => simpa using ih ps k (by simpa using hl) (by simpa using hk)
theorem rGet_end (b : UInt8) (n : List UInt8) (ps : List (Int × Int)) (k : Nat) (h : n.length ≤ k) : rGet b (n.drop k) (ps.drop k) = none := by
  rw [List.drop_eq_nil_of_le h]; rfl

set_option maxRecDepth 20000 in
set_option maxHeartbeats 4000000 in
theorem calls_Get13 (n : List UInt8) (ps : List (Int × Int)) (b : UInt8) (hl : n.length = ps.length) (hn : n.length ≤ 1000) :
    CallsR Try.prog 24 [.ptr 0 2 1 0 0, .int .u8 b.toNat] (rH n ps)
      (.tuple [.agg [.int .i64 ((rGet b n ps).getD (0, 0)).1, .int .i64 ((rGet b n ps).getD (0, 0)).2], .bool (rGet b n ps).isSome]) (rH n ps) := by
  refine callsR_of (mrg := true) (dyn := []) (CtrOK.nil _) mixed Try.func24 rfl (by simp [Try.ntmps24]) (by kernel_rfl) ?_
  rw [show Try.f24.results.toList = [.cell 4 37, .tmp 5] from by kernel_rfl]
  simp (maxSteps := 4000000) only [↓wpA_H, ↓wpH_seq, ↓wpH_block, ↓wpH_loop, ↓wpH_region, bselH_false, runH_nil, runH_cons, gw, gselH_plain, ↓chk, justK, noW, ↓oneK, ↓pureK, ↓heapK, envOf, ↓thenA_normal, ↓stepEv, opnd, Bool.false_eq_true, implies_true, true_and, valV, heapV, footV, Nat.reduceAdd, ofV, ofLeaf, AV.cells, AV.definite, Nat.reduceAdd, List.nil_append, List.cons_append, List.length_cons, List.length_nil, Nat.zero_add, ite_false, and_self, List.contains_nil, regH_none, isNext, nextF, nextG, selC_false, tz37, rH]
  refine loopH_intro (α := Nat) (fun k => ([(6, .int .i64 k), (5, .bool false), (4, .ptr 3 2 1 0 0), (0, .ptr 0 2 1 0 0), (1, .int .u8 b.toNat)], [.arr 35 2 [.agg [.own 1 1 n.length, .own 2 2 ps.length]], .arr 5 1 (ofBytes n), .arr 37 2 (aPs ps), .arr 37 2 [.agg [.int .i64 0, .int .i64 0]]]))
      (fun k => k ≤ n.length ∧ rGet b (n.drop k) (ps.drop k) = rGet b n ps) (fun k => n.length - k) 0 ⟨by omega, rfl⟩ ?_ ?_
  · simp (maxSteps := 4000000) only [Pg.look, Bool.and_true, Bool.false_eq_true, true_and, and_true, alives, aliveO, nxtQ, hdS, pairsA, frzA, closeQ_nil, closeQ_succ, diagQ_zero, diagQ_succ, Nat.reduceAdd, subA, subQ, ptrsE, pairsO, frzO, subF, subG, pickOf, assocN, pairsE, pairsC, pairsL, pairs0, frzE, frzC, frzL, frz0, frzH, Pg.freeze, List.foldl_nil, subOs, subO, subEv, subV_succ, subM, AV.cells, AV.pureLeaf, AV.pureB, List.getElem?_cons_succ, List.getElem?_cons_zero, reduceCtorEq, Nat.reduceEqDiff, Nat.reduceAdd, Nat.reduceLT, List.nil_append, List.append_nil, List.cons_append, Nat.zero_add, ite_true, ite_false, List.all_cons, List.all_nil, Bool.and_self, and_self, pureB_bytes, Int.cast_ofNat_Int, Nat.lt_irrefl, Nat.zero_lt_succ, pureB_aPs]
    (repeat' first | exact rfl | apply And.intro | exact subX_eq rfl (pureB_bytes _) | exact subX_eq rfl (pureB_aPs _) | exact subX_eq rfl rfl | decide | omega | apply subX_one)
    all_goals try simp (maxSteps := 4000000) only [subL]
  rintro k ⟨hk, hg⟩
  by_cases hlt : k < n.length
  · have hc1 : decide ((k : Int) < (n.length : Int)) = true := decide_eq_true (by omega)
    have hc3 : (((n.getD k 0).toNat : Int) == (b.toNat : Int)) = decide (n.getD k 0 = b) := by
      rw [Bool.eq_iff_iff]
      simp only [beq_iff_eq, decide_eq_true_eq]
      exact ⟨fun h => UInt8.toNat_inj.1 (by omega), fun h => by rw [h]⟩
    have w1 : IntKind.i64.wrap ((k : Int) + 1) = ((k + 1 : Nat) : Int) := by rw [wrap64 (by omega) (by omega)]; omega
    have hd := rGet_drop b n ps k hl hlt
    simp (maxSteps := 4000000) only [↓wpA_H, ↓wpH_skip, ↓wpH_ret, ↓wpH_seq, ↓wpH_cond, ↓wpH_block, ↓wpH_region, ↓iselH_true, iselH_if, bselH_false, runH_nil, runH_cons, gw, gselH_plain, cselH_bool, ↓chk, justK, noW, ↓oneK, ↓pureK, ↓heapK, ↓thenA_normal, ↓thenA_ret, ↓blockA_normal, ↓blockA_ret, ↓stepEv, opnd, Pg.look, binK, intOp, Bool.and_true, Bool.false_eq_true, implies_true, true_and, and_true, valV, heapV, footV, binV, intV, alives, aliveO, nxtQ, hdS, pairsA, frzA, closeQ_nil, closeQ_succ, diagQ_zero, diagQ_succ, Nat.reduceAdd, ofV, ofLeaf, retA, resK, tupA, subA, subQ, ptrsE, pairsO, frzO, subF, subG, pickOf, assocN, pairsE, pairsC, pairsL, pairs0, frzE, frzC, frzL, frz0, frzH, Pg.freeze, List.foldl_nil, subOs, subO, subEv, subV_succ, subM, subL, slen, ldCells, objAt, res_succ, resM, AV.cells, TK.cells, AV.leaf, AV.leafy, AV.pureLeaf, AV.pureB, putCells, lay, List.getElem?_cons_succ, List.getElem?_cons_zero, Option.getD_some, reduceCtorEq, Nat.reduceEqDiff, Nat.reduceAdd, Nat.reduceLT, List.nil_append, List.append_nil, List.cons_append, List.length_cons, List.length_nil, List.set_cons_zero, List.set_cons_succ, Nat.zero_add, ite_true, ite_false, Option.some.injEq, AV.int.injEq, decide_eq_true_eq, decide_eq_false_iff_not, List.all_cons, List.all_nil, Bool.and_self, and_self, exists_eq_left', length_ofBytes, getD_ofBytes, pureB_bytes, List.contains_nil, Int.toNat_natCast, List.getD_cons_zero, cutL, List.drop_zero, List.drop_succ_cons, List.take_succ_cons, List.take_zero, Nat.add_zero, Nat.sub_zero, Nat.le_refl, Nat.lt_irrefl, List.drop_nil, List.take_nil, Nat.zero_lt_succ, regH_none, isNext, nextF, nextG, selC_false, mapAt, tk5, dz5, tk32, tk33, tk35, dz35, tk37, dz37, length_aPs, pureB_aPs, hc1, hc3, w1, getD_aPs]
    refine ⟨⟨by omega, by omega⟩, by omega, fun he => ?_, fun he => ?_⟩
    · rw [if_pos he, hg] at hd
      rw [hd]
      (repeat' first | exact rfl | apply And.intro | exact subX_eq rfl (pureB_bytes _) | exact subX_eq rfl (pureB_aPs _) | exact subX_eq rfl rfl | decide | omega | apply subX_one)
      all_goals try simp (maxSteps := 4000000) only [subL]
    · rw [if_neg he, hg] at hd
      refine ⟨k + 1, ⟨by omega, hd.symm⟩, by omega, ?_⟩
      (repeat' first | exact rfl | apply And.intro | exact subX_eq rfl (pureB_bytes _) | exact subX_eq rfl (pureB_aPs _) | exact subX_eq rfl rfl | decide | omega | apply subX_one)
      all_goals try simp (maxSteps := 4000000) only [subL]
  · have hc1 : decide ((k : Int) < (n.length : Int)) = false := decide_eq_false (by omega)
    have he : rGet b n ps = none := by rw [← hg]; exact rGet_end b n ps k (by omega)
    simp (maxSteps := 4000000) only [↓wpA_H, ↓wpH_ret, ↓wpH_exit, ↓wpH_seq, ↓wpH_cond, ↓wpH_region, ↓iselH_false, bselH_false, runH_nil, runH_cons, gw, gselH_plain, cselH_bool, ↓chk, justK, noW, ↓oneK, ↓pureK, ↓heapK, ↓thenA_normal, ↓thenA_exit, ↓blockA_exit, ↓stepEv, opnd, Pg.look, binK, intOp, Bool.and_true, Bool.false_eq_true, implies_true, true_and, and_true, valV, heapV, footV, binV, intV, alives, aliveO, nxtQ, hdS, pairsA, frzA, closeQ_nil, closeQ_succ, diagQ_zero, diagQ_succ, Nat.reduceAdd, ofV, ofLeaf, retA, resK, tupA, subA, subQ, ptrsE, pairsO, frzO, subF, subG, pickOf, pairsE, pairsC, pairsL, pairs0, frzE, frzC, frzL, frz0, frzH, Pg.freeze, List.foldl_nil, subOs, subO, subEv, subV_succ, subM, subL, slen, ldCells, objAt, res_succ, resM, AV.cells, TK.cells, AV.leaf, AV.leafy, AV.pureLeaf, AV.pureB, putCells, lay, buildL, List.getElem?_cons_succ, List.getElem?_cons_zero, Option.getD_some, Option.getD_none, reduceCtorEq, Nat.reduceEqDiff, Nat.reduceAdd, Nat.reduceLT, List.nil_append, List.append_nil, List.cons_append, List.length_cons, List.length_nil, List.map_nil, List.set_cons_zero, List.set_cons_succ, Nat.zero_add, ite_true, ite_false, Option.some.injEq, Option.isSome_some, Option.isSome_none, AV.int.injEq, AV.agg.injEq, List.all_cons, List.all_nil, Bool.and_self, and_self, exists_eq_left', pureB_bytes, List.contains_nil, List.getD_cons_zero, cutL, List.drop_zero, List.drop_succ_cons, List.take_succ_cons, List.take_zero, Nat.add_zero, Nat.sub_zero, Nat.le_refl, List.drop_nil, List.take_nil, Nat.zero_lt_succ, regH_none, isNext, nextF, nextG, selC_false, mapAt, tk32, tk35, dz35, tk37, tz37, dz37, pureB_aPs, hc1, he]
    (repeat' first | exact rfl | apply And.intro | exact subX_eq rfl (pureB_bytes _) | exact subX_eq rfl (pureB_aPs _) | exact subX_eq rfl rfl | decide | omega | apply subX_one)
    all_goals try simp (maxSteps := 4000000) only [subL]

def kGet13 : C1 := C1.mby (hCons hRef (hCons (hP .id cByte) hNil)) (fun d => d.1.1.length = d.1.2.1.length ∧ d.1.1.length ≤ 1000)
  (fun d => .tuple [.agg [.int .i64 ((rGet d.2.1 d.1.1 d.1.2.1).getD (0, 0)).1, .int .i64 ((rGet d.2.1 d.1.1 d.1.2.1).getD (0, 0)).2], .bool (rGet d.2.1 d.1.1 d.1.2.1).isSome]) (fun d => rH d.1.1 d.1.2.1)
theorem ok_Get13 : C1OK Try.prog 24 kGet13 := C1OK.mby (by kernel_rfl) (fun d h => calls_Get13 d.1.1 d.1.2.1 d.2.1 h.1 h.2) (fun _ _ => Nat.le_refl _)

/-- What is left of marks behind a change. -/
def adj (at_ old now : Int) (l : List (UInt8 × (Int × Int))) : List (UInt8 × (Int × Int)) :=
  l.filterMap fun x => if (shiftR13 x.2.1 at_ old now).2 = true then some (x.1, ((shiftR13 x.2.1 at_ old now).1, x.2.2)) else none
theorem adj_len (at_ old now : Int) (l : List (UInt8 × (Int × Int))) : (adj at_ old now l).length ≤ l.length := List.length_filterMap_le _ _
theorem take_succ' {α : Type} (l : List α) (k : Nat) (d : α) (h : k < l.length) : l.take (k + 1) = l.take k ++ [l.getD k d] := by
  rw [List.take_add_one, List.getD_eq_getElem?_getD, List.getElem?_eq_getElem h]; rfl
theorem adj_succ (at_ old now : Int) (n : List UInt8) (ps : List (Int × Int)) (k : Nat) (hl : n.length = ps.length) (hk : k < n.length) :
    adj at_ old now ((n.zip ps).take (k + 1)) = adj at_ old now ((n.zip ps).take k) ++
      if (shiftR13 (ps.getD k (0, 0)).1 at_ old now).2 = true then [(n.getD k 0, ((shiftR13 (ps.getD k (0, 0)).1 at_ old now).1, (ps.getD k (0, 0)).2))] else [] := by
  rw [take_succ' _ k (0, (0, 0)) (by simp; omega), adj, List.filterMap_append]
  have e : (n.zip ps).getD k (0, (0, 0)) = (n.getD k 0, ps.getD k (0, 0)) := by
    have h1 : k < ps.length := by omega
    have h2 : k < (n.zip ps).length := by simp; omega
    simp [List.getD_eq_getElem?_getD, hk, h1, List.getElem?_eq_getElem h2]
  rw [e]
  simp only [adj, List.filterMap_cons, List.filterMap_nil]
  congr 1
  split <;> simp_all

set_option maxRecDepth 20000 in
set_option maxHeartbeats 4000000 in
theorem calls_Adjust13 (n : List UInt8) (ps : List (Int × Int)) (at_ old now : Int) (hl : n.length = ps.length) (hn : n.length ≤ 1000) :
    CallsR Try.prog 22 [.ptr 0 2 1 0 0, .int .i64 at_, .int .i64 old, .int .i64 now] (rH n ps)
      (.tuple []) (rH' ((adj at_ old now (n.zip ps)).map (·.1)) ((adj at_ old now (n.zip ps)).map (·.2))) := by
  refine callsR_of (mrg := true) (dyn := [9]) (CtrOK.cons ok_Shift13 (CtrOK.nil _)) mixed Try.func22 rfl (by simp [Try.ntmps22]) (by kernel_rfl) ?_
  rw [show Try.f22.results.toList = [] from by kernel_rfl]
  simp (maxSteps := 4000000) only [↓wpA_H, ↓wpH_seq, ↓wpH_block, ↓wpH_loop, ↓wpH_region, bselH_false, runH_nil, runH_cons, gw, gselH_plain, ↓chk, justK, ↓oneK, ↓pureK, envOf, ↓thenA_normal, ↓stepEv, opnd, Bool.false_eq_true, implies_true, true_and, valV, heapV, footV, Nat.reduceAdd, ofV, ofLeaf, Nat.reduceAdd, List.length_cons, List.length_nil, Nat.zero_add, ite_false, and_self, List.contains_cons, List.contains_nil, Nat.reduceBEq, Bool.or_self, regH_none, isNext, nextF, nextG, selC_false, rH]
  refine loopH_intro (α := Nat) (fun k => ([(8, .own 3 1 ((adj at_ old now ((n.zip ps).take k)).map (·.1)).length), (9, .own 4 2 ((adj at_ old now ((n.zip ps).take k)).map (·.2)).length), (10, .int .i64 k), (0, .ptr 0 2 1 0 0), (1, .int .i64 at_), (2, .int .i64 old), (3, .int .i64 now)], [.arr 35 2 [.agg [.own 1 1 n.length, .own 2 2 ps.length]], .arr 5 1 (ofBytes n), .arr 37 2 (aPs ps), .arr 5 1 (ofBytes ((adj at_ old now ((n.zip ps).take k)).map (·.1))), .arr 37 2 (aPs ((adj at_ old now ((n.zip ps).take k)).map (·.2)))]))
      (fun k => k ≤ n.length) (fun k => n.length - k) 0 (by omega) ?_ ?_
  · simp (maxSteps := 4000000) only [Pg.look, Bool.and_true, Bool.false_eq_true, true_and, and_true, alives, aliveO, nxtQ, hdS, pairsA, frzA, closeQ_nil, closeQ_succ, diagQ_zero, diagQ_succ, Nat.reduceAdd, subA, subQ, ptrsE, pairsO, frzO, subF, subG, pickOf, assocN, pairsE, pairsC, pairsL, pairs0, frzE, frzC, frzL, frz0, frzH, Pg.freeze, List.foldl_nil, subOs, subO, subEv, subV_succ, subM, AV.cells, AV.pureLeaf, AV.pureB, List.getElem?_cons_succ, List.getElem?_cons_zero, reduceCtorEq, Nat.reduceEqDiff, Nat.reduceAdd, Nat.reduceLT, List.nil_append, List.append_nil, List.cons_append, Nat.zero_add, ite_true, ite_false, List.all_cons, List.all_nil, Bool.and_self, and_self, List.length_map, pureB_bytes, Int.cast_ofNat_Int, List.take_zero, Nat.lt_irrefl, Nat.zero_lt_succ, pureB_aPs]
    (repeat' first | exact rfl | apply And.intro | exact subX_eq rfl (pureB_bytes _) | exact subX_eq rfl (pureB_aPs _) | exact subX_eq rfl rfl | decide | omega | apply subX_one)
    all_goals try simp (maxSteps := 4000000) only [subL]
  intro k hk
  by_cases hlt : k < n.length
  · have hc1 : decide ((k : Int) < (n.length : Int)) = true := decide_eq_true (by omega)
    have w1 : IntKind.i64.wrap ((k : Int) + 1) = ((k + 1 : Nat) : Int) := by rw [wrap64 (by omega) (by omega)]; omega
    have hs := adj_succ at_ old now n ps k hl hlt
    simp (maxSteps := 4000000) only [↓wpA_H, ↓wpH_skip, ↓wpH_seq, ↓wpH_cond, ↓wpH_block, ↓wpH_region, bselH_true, ↓iselH_true, iselH_if, bselH_false, runH_nil, runH_cons, gw, gselH_plain, cselH_bool, ↓chk, justK, noW, ↓oneK, ↓pureK, ↓heapK, ↓thenA_normal, ↓blockA_normal, ↓stepEv, opnd, Pg.look, binK, intOp, Bool.and_true, Bool.false_eq_true, implies_true, true_and, and_true, forall_const, valV, heapV, footV, binV, intV, alives, aliveO, nxtQ, hdS, pairsA, frzA, closeQ_nil, closeQ_succ, diagQ_zero, diagQ_succ, Nat.reduceAdd, ofV, ofLeaf, subA, subQ, ptrsE, pairsO, frzO, subF, subG, pickOf, assocN, pairsE, pairsC, pairsL, pairs0, frzE, frzC, frzL, frz0, frzH, Pg.freeze, List.foldl_nil, subOs, subO, subEv, subV_succ, subM, slen, srcV, srcE, appK, ldCells, objAt, ↓callT, callC, callV, callH, normArgs, normA, resL, res8_eq, res_succ, resM, shiftR, shift1, AV.cells, TK.cells, AV.definite, AV.leaf, AV.leafy, AV.pureLeaf, AV.pureB, putCells, lay, List.getElem?_cons_succ, List.getElem?_cons_zero, Option.getD_some, reduceCtorEq, Nat.reduceEqDiff, Nat.reduceAdd, Nat.reduceLT, List.nil_append, List.append_nil, List.cons_append, List.length_cons, List.length_nil, List.map_cons, List.map_nil, List.set_cons_zero, List.set_cons_succ, Nat.zero_add, ite_true, ite_false, Option.some.injEq, Option.isSome_some, AV.int.injEq, List.all_cons, List.all_nil, Bool.and_self, and_self, exists_eq_left', List.length_map, cInt_dec, rg1, length_ofBytes, getD_ofBytes, app1_ofBytes, lOne_dec, lCons_dec, dec2_some, pureB_bytes, List.contains_cons, List.contains_nil, Nat.reduceBEq, Bool.or_self, Bool.or_false, beq_self_eq_true, List.range'_zero, Nat.reducePow, C1by_ns, C1by_pre, C1by_r, C1by_H, optP_some, optV_some, optH_some, Int.toNat_natCast, List.getD_cons_zero, cutL, List.drop_zero, List.drop_succ_cons, List.take_succ_cons, List.take_zero, Nat.add_zero, Nat.sub_zero, Nat.reduceLeDiff, Nat.le_refl, Nat.lt_irrefl, Nat.mul_one, Nat.one_mul, List.drop_nil, List.take_nil, Nat.zero_lt_succ, C1by_it, regH_none, isNext, nextF, nextG, selC_false, ↓msel, muC, ↓callP, C1by_mu, tk3, tk5, dz5, eb5, tk32, tk33, tk35, dz35, tk37, tz37, dz37, eb37, length_aPs, pureB_aPs, hc1, w1, getD_aPs, app1_aPs, kShift13]
    have hal := adj_len at_ old now ((n.zip ps).take k)
    have hzl : ((n.zip ps).take k).length ≤ 1000 := by simp; omega
    refine ⟨⟨by omega, by omega⟩, by omega, fun h => ?_, fun h => ?_⟩
    · rw [if_pos h] at hs
      refine ⟨⟨by omega, by omega⟩, by omega, ⟨by decide, by omega⟩, ⟨by decide, by omega⟩, by kernel_rfl, k + 1, by omega, by omega, ?_⟩
      rw [hs]
      simp only [List.map_append, List.map_cons, List.map_nil, List.length_append, List.length_cons, List.length_nil]
      (repeat' first | exact rfl | apply And.intro | exact subX_eq rfl (pureB_bytes _) | exact subX_eq rfl (pureB_aPs _) | exact subX_eq rfl rfl | decide | omega | apply subX_one)
      all_goals try simp (maxSteps := 4000000) only [subL]
    · rw [if_neg (by rw [h]; decide), List.append_nil] at hs
      refine ⟨k + 1, by omega, by omega, ?_⟩
      rw [hs]
      (repeat' first | exact rfl | apply And.intro | exact subX_eq rfl (pureB_bytes _) | exact subX_eq rfl (pureB_aPs _) | exact subX_eq rfl rfl | decide | omega | apply subX_one)
      all_goals try simp (maxSteps := 4000000) only [subL]
  · have hc1 : decide ((k : Int) < (n.length : Int)) = false := decide_eq_false (by omega)
    have he : (n.zip ps).take k = n.zip ps := List.take_of_length_le (by simp; omega)
    simp (maxSteps := 4000000) only [↓wpA_H, ↓wpH_exit, ↓wpH_seq, ↓wpH_cond, ↓wpH_region, ↓iselH_false, bselH_false, runH_nil, runH_cons, gw, gselH_plain, cselH_bool, ↓chk, justK, noW, ↓oneK, ↓pureK, ↓heapK, ↓thenA_normal, ↓thenA_exit, ↓blockA_exit, ↓stepEv, opnd, Pg.look, binK, intOp, Bool.and_true, Bool.false_eq_true, implies_true, true_and, and_true, valV, heapV, footV, binV, intV, alives, aliveO, nxtQ, hdS, pairsA, frzA, closeQ_nil, closeQ_succ, diagQ_zero, diagQ_succ, Nat.reduceAdd, retA, resK, tupA, subA, subQ, ptrsE, pairsO, frzO, subF, subG, pickOf, assocN, pairsE, pairsC, pairsL, pairs0, frzE, frzC, frzL, frz0, frzH, Pg.freeze, List.foldl_nil, subOs, subO, subEv, subV_succ, subM, subL, slen, ldCells, objAt, AV.cells, TK.cells, AV.leaf, AV.leafy, AV.pureLeaf, AV.pureB, putCells, lay, List.getElem?_cons_succ, List.getElem?_cons_zero, Option.getD_some, reduceCtorEq, Nat.reduceEqDiff, Nat.reduceAdd, Nat.reduceLT, List.nil_append, List.append_nil, List.cons_append, List.length_cons, List.length_nil, List.set_cons_zero, Nat.zero_add, ite_true, ite_false, Option.some.injEq, AV.int.injEq, List.all_cons, List.all_nil, Bool.and_self, and_self, exists_eq_left', List.length_map, pureB_bytes, List.contains_cons, List.contains_nil, Nat.reduceBEq, Bool.or_self, List.getD_cons_zero, List.drop_zero, List.drop_succ_cons, List.take_succ_cons, List.take_zero, Nat.add_zero, Nat.reduceLeDiff, Nat.le_refl, Nat.lt_irrefl, List.drop_nil, Nat.zero_lt_succ, regH_none, isNext, nextF, nextG, selC_false, tk32, tk33, tk35, dz35, pureB_aPs, hc1, he]
    (repeat' first | exact rfl | apply And.intro | exact subX_eq rfl (pureB_bytes _) | exact subX_eq rfl (pureB_aPs _) | exact subX_eq rfl rfl | decide | omega | apply subX_one)
    all_goals try simp (maxSteps := 4000000) only [subL]
def kAdjust13 : C1 := C1.mby (hCons hRef (hCons (hP .id (cInt .i64)) (hCons (hP .id (cInt .i64)) (hCons (hP .id (cInt .i64)) hNil)))) (fun d => d.1.1.length = d.1.2.1.length ∧ d.1.1.length ≤ 1000) (fun _ => .tuple [])
  (fun d => rH' ((adj d.2.1 d.2.2.1 d.2.2.2.1 (d.1.1.zip d.1.2.1)).map (·.1)) ((adj d.2.1 d.2.2.1 d.2.2.2.1 (d.1.1.zip d.1.2.1)).map (·.2)))
theorem ok_Adjust13 : C1OK Try.prog 22 kAdjust13 := C1OK.mby (by kernel_rfl) (fun d h => calls_Adjust13 d.1.1 d.1.2.1 d.2.1 d.2.2.1 d.2.2.2.1 h.1 h.2) (fun _ _ => by show 3 ≤ 5; omega)
end Go.Pg
namespace Go.Pg
open Go Go.Proofs Go.Shelf

theorem VRs.one {E : Env} {a : AV} {vals : Array Value} (h : VRs E [a] vals) : ∃ u, vals = #[u] ∧ VR E a u := by
  obtain ⟨hs, hv⟩ := h
  match vals, hs with
  | ⟨[u]⟩, _ => exact ⟨u, rfl, hv 0 a rfl⟩

theorem callsR_mapCopy {P : Program} {f : FuncId} {es : List (AV × AV)}
    (h : ∀ (W : World) (b cl : Nat) (a : Array MapEntry), W.heap[b]? = some (.map a cl) → Calls P f #[.map (some b)] W fun e w' => e = .returned (.map (some W.heap.size)) ∧ w' = W.alloc (.map a cl)) :
    CallsR P f [.mp 0] [.mp es] (.mp 1) [.mp es, .mp es] := by
  intro E vals hr hv
  obtain ⟨u, rfl, k1⟩ := hv.one
  obtain ⟨b, a, cl, rfl, hM, hb, hes, hs⟩ := mp_read hr k1 (es := es) rfl
  refine (h E.W b cl a hb).mono fun e W' ⟨he, hw⟩ => ?_
  have hle : AHle [.mp es] [.mp es, .mp es] := fun id o ho => by
    cases id with
    | zero => exact ⟨o, ho, .refl o⟩
    | succ n => simp at ho
  obtain ⟨E1, hr1, hW1, hM1, hst1⟩ := hr.le hle
  have hes1 : EntsAt E1 es a := hes.mono (hst1.ext hr)
  obtain ⟨E', hW, hr', hst, hMo, hMid, hhl⟩ := alloc_gen hr1 (id := 1) (by rw [hM1]; exact hr.dom 1 (Nat.le_refl _)) (o' := .mp es) rfl (by simp) (w' := W') (ob := .map a cl) (by rw [hw, hW1]; exact ⟨rfl, rfl, rfl⟩) (by rw [hw, hW1]; rfl)
    fun E' hx hE' => ⟨_, a, cl, rfl, by rw [hE', hw, hW1]; exact heap_alloc_new E.W _, hes1.mono hx, hs⟩
  rw [hW1] at hMid
  exact ⟨_, E', he, hW, .mp _ _ (by rw [hMid]; rfl) (fun _ => hMid), hr', hst1.trans hst⟩

def cloneRen : Ren := ⟨fun | 5 => 46 | 7 => 58 | n => n, fun | 4 => 4 | 20 => 20 | 23 => 81 | 25 => 5 | 3 => 37 | n => n, fun | n => n⟩
theorem cloneLays : SlLaysW.n5 Try.prog cloneRen := {
  mixed := by kernel_rfl
  f5 := ⟨Try.f46.name, by decide, Try.func46.trans (congrArg some (by kernel_rfl))⟩
  f7 := by kernel_rfl
  t4 := Try.underlying4
  a4 := Try.isAgg4
  z4 := Try.sizeOf4
  v4 := Try.zeroValue4
  t20 := Try.underlying20
  a20 := Try.isAgg20
  z20 := Try.sizeOf20
  v20 := Try.zeroValue20
  t23 := Try.underlying81
  a23 := Try.isAgg81
  z23 := Try.sizeOf81
  v23 := Try.zeroValue81 }

theorem calls_Clone (es : List (AV × AV)) : CallsR Try.prog 46 [.mp 0] [.mp es] (.mp 1) [.mp es, .mp es] :=
  callsR_mapCopy fun W b cl a hb => AnyW.maps_Clone cloneLays b a cl W hb
def kClone : C1 := C1.mby (hCons (hMp cByte cPos) hNil) (fun _ => True) (fun _ => .mp 1) (fun d => [.mp (encE cByte cPos d.1), .mp (encE cByte cPos d.1)])
theorem ok_Clone : C1OK Try.prog 46 kClone := C1OK.mby (by kernel_rfl) (fun d _ => calls_Clone _) (fun _ _ => by show 1 ≤ 2; omega)

/-! ### The marks move -/
def stp (at_ old now : Int) (x : UInt8 × (Int × Int)) : Option (UInt8 × (Int × Int)) :=
  if (shiftM x.2.1 at_ old now).2 = true then some (x.1, ((shiftM x.2.1 at_ old now).1, x.2.2)) else none
def adjM (at_ old now : Int) (l : Mks) : Mks := l.filterMap (stp at_ old now)
def keysOf (l : Mks) : List UInt8 := l.map (·.1)
/-- What the marks are while some are left. -/
def mid (at_ old now : Int) (left l : Mks) : Mks := l.filterMap fun x => if x.1 ∈ keysOf left then some x else stp at_ old now x

theorem cByte_enc (b : UInt8) : cByte.enc b = .int .u8 b.toNat := rfl
theorem stp_key {at_ old now : Int} {x y : UInt8 × (Int × Int)} (h : stp at_ old now x = some y) : y.1 = x.1 := by
  unfold stp at h
  split at h
  · cases h; rfl
  · cases h
theorem mid_all (at_ old now : Int) (l : Mks) : mid at_ old now l l = l := by
  have : ∀ m : Mks, (∀ x ∈ m, x ∈ l) → m.filterMap (fun x => if x.1 ∈ keysOf l then some x else stp at_ old now x) = m := by
    intro m
    induction m with
    | nil => intro _; rfl
    | cons x r ih =>
      intro h
      have hx : x.1 ∈ keysOf l := List.mem_map.2 ⟨x, h x (by simp), rfl⟩
      rw [List.filterMap_cons_some (by rw [if_pos hx]), ih fun y hy => h y (by simp [hy])]
  exact this l fun _ h => h
theorem mid_nil (at_ old now : Int) (l : Mks) : mid at_ old now [] l = adjM at_ old now l := by
  unfold mid adjM
  congr 1
theorem mid_congr (at_ old now : Int) {a b : Mks} (l : Mks) (h : ∀ x ∈ l, x.1 ∈ keysOf a ↔ x.1 ∈ keysOf b) : mid at_ old now a l = mid at_ old now b l := by
  unfold mid
  induction l with
  | nil => rfl
  | cons x r ih =>
    simp only [List.filterMap_cons, ih fun y hy => h y (by simp [hy]), h x (by simp)]
theorem mid_step (at_ old now : Int) {left left' : Mks} {k : UInt8} {v : Int × Int} (hk : k ∈ keysOf left) (hk' : k ∉ keysOf left') (hs : ∀ c, c ≠ k → (c ∈ keysOf left ↔ c ∈ keysOf left')) :
    ∀ l : Mks, (keysOf l).Nodup → (k, v) ∈ l → mid at_ old now left' l = if (shiftM v.1 at_ old now).2 = true then upd k ((shiftM v.1 at_ old now).1, v.2) (mid at_ old now left l) else del k (mid at_ old now left l) := by
  intro l
  induction l with
  | nil => intro _ h; cases h
  | cons x r ih =>
    intro hn hm
    obtain ⟨hx, hr⟩ := List.nodup_cons.1 hn
    by_cases hxk : x.1 = k
    · have hxe : x = (k, v) := by
        rcases List.mem_cons.1 hm with h | h
        · exact h.symm
        · exact (hx (List.mem_map.2 ⟨_, h, hxk.symm⟩)).elim
      subst hxe
      have hc : mid at_ old now left r = mid at_ old now left' r := mid_congr at_ old now r fun y hy => hs _ fun e => hx (List.mem_map.2 ⟨y, hy, e⟩)
      have e1 : mid at_ old now left ((k, v) :: r) = (k, v) :: mid at_ old now left r := by
        unfold mid; rw [List.filterMap_cons_some (by rw [if_pos hk])]
      have e2 : mid at_ old now left' ((k, v) :: r) = (if (shiftM v.1 at_ old now).2 = true then [(k, ((shiftM v.1 at_ old now).1, v.2))] else []) ++ mid at_ old now left' r := by
        unfold mid
        simp only [List.filterMap_cons, if_neg hk', stp]
        split <;> simp_all
      rw [e1, e2, hc]
      split
      · simp [upd]
      · simp [del]
    · have hmr : (k, v) ∈ r := by
        rcases List.mem_cons.1 hm with h | h
        · exact (hxk (by rw [← h])).elim
        · exact h
      have := ih hr hmr
      have hsx := hs x.1 hxk
      have hg : ∀ m : Mks, (keysOf m).Nodup → True := fun _ _ => trivial
      have e : ∀ q : Mks, (x.1 ∈ keysOf q ↔ x.1 ∈ keysOf left) → mid at_ old now q (x :: r) = ((if x.1 ∈ keysOf left then some x else stp at_ old now x).toList) ++ mid at_ old now q r := by
        intro q hq
        unfold mid
        simp only [List.filterMap_cons, hq]
        split <;> simp_all
      have hy : ∀ y ∈ (if x.1 ∈ keysOf left then some x else stp at_ old now x).toList, y.1 ≠ k := by
        intro y hy
        split at hy
        · simp only [Option.toList_some, List.mem_singleton] at hy; rw [hy]; exact hxk
        · have := stp_key (Option.mem_toList.1 hy); rw [this]; exact hxk
      rw [e left' hsx.symm, e left .rfl, this]
      generalize (if x.1 ∈ keysOf left then some x else stp at_ old now x) = o at hy
      cases o with
      | none => rfl
      | some y =>
        have := hy y (by simp)
        split
        · simp [upd, this]
        · simp [del, this]

theorem left_erase {left : Mks} (hn : (keysOf left).Nodup) {j : Nat} {p : UInt8 × (Int × Int)} (hj : left[j]? = some p) :
    p.1 ∈ keysOf left ∧ p.1 ∉ keysOf (left.eraseIdx j) ∧ (∀ c, c ≠ p.1 → (c ∈ keysOf left ↔ c ∈ keysOf (left.eraseIdx j))) ∧ (keysOf (left.eraseIdx j)).Nodup ∧ (left.eraseIdx j).length < left.length ∧ p ∈ left := by
  induction left generalizing j with
  | nil => simp at hj
  | cons x r ih =>
    obtain ⟨hx, hr⟩ := List.nodup_cons.1 hn
    cases j with
    | zero =>
      simp only [List.getElem?_cons_zero, Option.some.injEq] at hj
      subst hj
      refine ⟨by simp [keysOf], hx, fun c hc => by simp [keysOf, hc], hr, by simp, by simp⟩
    | succ j =>
      obtain ⟨h1, h2, h3, h4, h5, h6⟩ := ih hr (by simpa using hj)
      have hne : p.1 ≠ x.1 := fun e => hx (show x.1 ∈ keysOf r from e ▸ h1)
      simp only [keysOf, List.map_cons, List.eraseIdx_cons_succ, List.mem_cons, List.nodup_cons, List.length_cons] at h1 h2 h3 h4 hx ⊢
      refine ⟨.inr h1, fun h => h.elim hne h2, fun c hc => or_congr .rfl (h3 c hc), ⟨fun h => ?_, h4⟩, by omega, .inr h6⟩
      exact hx ((h3 x.1 (fun e => hne e.symm)).2 h)

set_option maxRecDepth 20000 in
set_option maxHeartbeats 4000000 in
theorem calls_Adjust (l : Mks) (at_ old now : Int) (hn : (keysOf l).Nodup) :
    CallsR Try.prog 21 [.ptr 0 1 1 0 0, .int .i64 at_, .int .i64 old, .int .i64 now] (mkH l)
      (.tuple []) (mkH (adjM at_ old now l)) := by
  refine callsR_of (mrg := true) (dyn := []) (CtrOK.cons ok_Clone (CtrOK.cons ok_Shift (CtrOK.nil _))) mixed Try.func21 rfl (by simp [Try.ntmps21]) (by kernel_rfl) ?_
  rw [show Try.f21.results.toList = [] from by kernel_rfl]
  simp (maxSteps := 4000000) only [↓wpA_H, ↓wpH_seq, ↓wpH_block, ↓wpH_loop, ↓wpH_region, bselH_false, runH_nil, runH_cons, gw, gselH_plain, ↓chk, justK, noW, ↓oneK, ↓pureK, ↓heapK, envOf, ↓thenA_normal, ↓stepEv, opnd, Pg.look, Bool.not_false, Bool.false_eq_true, implies_true, true_and, and_true, valV, heapV, footV, Nat.reduceAdd, Pg.freeze, List.foldl_nil, ldCells, objAt, ↓callT, AV.cells, TK.cells, frzAt, List.getElem?_cons_succ, List.getElem?_cons_zero, Option.getD_some, reduceCtorEq, Nat.reduceEqDiff, Nat.reduceAdd, Nat.reduceSub, List.nil_append, List.append_nil, List.cons_append, List.length_cons, List.length_nil, List.map_cons, List.map_nil, List.set_cons_zero, List.set_cons_succ, Nat.zero_add, ite_true, ite_false, Option.some.injEq, List.all_cons, List.all_nil, Bool.and_self, and_self, exists_eq_left', List.contains_nil, List.range'_zero, List.getD_cons_zero, List.getD_cons_succ, Nat.add_zero, Nat.zero_lt_succ, regH_none, isNext, nextF, nextG, selC_false, ↓msel, muC, ↓callU, ↓callUV, ↓callUH, ↓callUF, C1by_mu, C1mby_mu, runM_eq, mkM_some, hNil_dec, hCons_dec, app3_some, hO1_some, hM1_mp, hMp_dec, pickF, nodupB, somes, fresh, gids, gid, putO, ren, renO, ↓mapK, mapAt, List.range'_succ, tk81, mt81, tk83, dz83, mkH, kClone, kShift, decE_pos]
  refine loopH_intro (α := Option (AV × AV) × Mks) (fun x => ([(17, .it 3), (16, .mp 2), (0, .ptr 0 1 1 0 0), (1, .int .i64 at_), (2, .int .i64 old), (3, .int .i64 now)], [.arr 83 1 [.agg [.mp 1]],   .mp (encE cByte cPos (mid at_ old now x.2 l)), .dead, .it x.1 (encE cByte cPos x.2)]))
      (fun x => (∀ y ∈ x.2, y ∈ l) ∧ (keysOf x.2).Nodup) (fun x => x.2.length) (none, l) ⟨fun _ h => h, hn⟩ ?_ ?_
  · rw [mid_all]
    simp (maxSteps := 4000000) only [Pg.look, Bool.and_true, Bool.false_eq_true, true_and, and_true, alives, aliveO, nxtQ, hdS, pairsA, frzA, closeQ_nil, closeQ_succ, diagQ_zero, diagQ_succ, Nat.reduceAdd, subA, subQ, ptrsE, pairsO, frzO, subF, subG, pickOf, assocN, pairsE, pairsC, pairsL, pairs0, frzE, frzC, frzL, frz0, frzH, Pg.freeze, List.foldl_nil, subOs, subO, subEv, subV_succ, subM, AV.cells, AV.pureLeaf, AV.pureB, List.getElem?_cons_succ, List.getElem?_cons_zero, reduceCtorEq, Nat.reduceEqDiff, Nat.reduceAdd, Nat.reduceLT, List.nil_append, List.append_nil, List.cons_append, Nat.zero_add, ite_true, ite_false, List.all_cons, List.all_nil, and_self, Nat.lt_irrefl, Nat.zero_lt_succ]
    (repeat' first | exact rfl | apply And.intro | exact subX_eq rfl (pureB_bytes _) | exact subX_eq rfl (pureB_aPs _) | exact subX_eq rfl rfl | decide | omega | apply subX_one)
    all_goals try simp (maxSteps := 4000000) only [subL]
  rintro ⟨c, left⟩ ⟨hs, hnl⟩
  simp (maxSteps := 4000000) only [↓wpA_H, ↓wpH_skip, ↓wpH_exit, ↓wpH_seq, ↓wpH_cond, ↓wpH_block, ↓wpH_region, ↓iselH_true, ↓iselH_false, iselH_if, bselH_false, runH_nil, runH_cons, gw, gselH_plain, cselH_bool, ↓chk, justK, noW, ↓oneK, ↓pureK, ↓heapK, ↓thenA_normal, ↓thenA_exit, ↓blockA_normal, ↓blockA_exit, ↓stepEv, opnd, Pg.look, Bool.and_true, Bool.false_eq_true, false_implies, implies_true, imp_self, true_and, and_true, valV, heapV, footV, alives, aliveO, nxtQ, hdS, pairsA, frzA, closeQ_nil, closeQ_succ, diagQ_zero, diagQ_succ, Nat.reduceAdd, retA, resK, tupA, subA, subQ, ptrsE, pairsO, frzO, subF, subG, pickOf, assocN, pairsE, pairsC, pairsL, pairs0, frzE, frzC, frzL, frz0, frzH, Pg.freeze, List.foldl_nil, subOs, subO, subEv, subV_succ, subM, subL, ldCells, objAt, ↓callT, callC, callV, callH, normArgs, normA, resL, res8_eq, res_succ, resM, shiftR, shift1, AV.cells, TK.cells, AV.definite, AV.leaf, AV.leafy, AV.pureLeaf, AV.pureB, putCells, lay, List.getElem?_cons_succ, List.getElem?_cons_zero, Option.getD_some, reduceCtorEq, Nat.reduceEqDiff, Nat.reduceAdd, Nat.reduceLT, List.nil_append, List.append_nil, List.cons_append, List.length_cons, List.length_nil, List.map_cons, List.map_nil, List.set_cons_zero, List.set_cons_succ, Nat.zero_add, ite_true, ite_false, Option.some.injEq, Option.isSome_none, Prod.mk.injEq, List.all_cons, List.all_nil, Bool.and_self, and_self, Bool.not_eq_true', exists_eq_left', cInt_dec, lOne_dec, lCons_dec, dec2_some, List.contains_nil, beq_self_eq_true, List.range'_zero, C1by_ns, C1by_pre, C1by_r, C1by_H, optP_some, optV_some, optH_some, List.getD_cons_zero, cutL, List.drop_zero, List.drop_succ_cons, List.take_succ_cons, List.take_zero, Nat.add_zero, Nat.sub_zero, Nat.reduceLeDiff, Nat.le_refl, Nat.lt_irrefl, List.drop_nil, List.take_nil, Nat.zero_lt_succ, C1by_it, regH_none, regH_some, nextA_it, nextM_enc, isNext, nextF, nextG, selC_true, selC_false, pureC, ↓msel, muC, ↓callP, C1by_mu, delE_byte, keys_byte, ↓mapK, isKeyA, kdT, List.append_assoc, tk3, tk37, tz37, dz37, tk81, mt81, tk83, dz83, kShift, cPos_enc, cByte_enc, setE_pos]
  refine ⟨fun he => ?_, fun j p hj => ?_⟩
  · subst he
    rw [mid_nil]
    (repeat' first | exact rfl | apply And.intro | exact subX_eq rfl (pureB_bytes _) | exact subX_eq rfl (pureB_aPs _) | exact subX_eq rfl rfl | decide | omega | apply subX_one)
    all_goals try simp (maxSteps := 4000000) only [subL]
  · obtain ⟨h1, h2, h3, h4, h5, h6⟩ := left_erase hnl hj
    have hst := mid_step at_ old now (v := p.2) h1 h2 h3 l hn (hs _ h6)
    refine ⟨fun h => ⟨(some (cByte.enc p.1, cPos.enc p.2), left.eraseIdx j), ⟨fun y hy => hs y (List.mem_of_mem_eraseIdx hy), h4⟩, h5, ?_⟩, fun h => ⟨(some (cByte.enc p.1, cPos.enc p.2), left.eraseIdx j), ⟨fun y hy => hs y (List.mem_of_mem_eraseIdx hy), h4⟩, h5, ?_⟩⟩
    · rw [if_neg (by rw [h]; decide)] at hst
      rw [hst]
      (repeat' first | exact rfl | apply And.intro | exact subX_eq rfl (pureB_bytes _) | exact subX_eq rfl (pureB_aPs _) | exact subX_eq rfl rfl | decide | omega | apply subX_one)
      all_goals try simp (maxSteps := 4000000) only [subL]
    · rw [if_pos (by simpa using h)] at hst
      rw [hst]
      (repeat' first | exact rfl | apply And.intro | exact subX_eq rfl (pureB_bytes _) | exact subX_eq rfl (pureB_aPs _) | exact subX_eq rfl rfl | decide | omega | apply subX_one)
      all_goals try simp (maxSteps := 4000000) only [subL]
def kAdjust : C1 := C1.mby (hCons hMarks (hCons (hP .id (cInt .i64)) (hCons (hP .id (cInt .i64)) (hCons (hP .id (cInt .i64)) hNil)))) (fun d => (keysOf d.1.1).Nodup) (fun _ => .tuple []) (fun d => mkH (adjM d.2.1 d.2.2.1 d.2.2.2.1 d.1.1))
theorem ok_Adjust : C1OK Try.prog 21 kAdjust := C1OK.mby (by kernel_rfl) (fun d h => calls_Adjust d.1.1 d.2.1 d.2.2.1 d.2.2.2.1 h) (fun _ _ => Nat.le_refl _)
end Go.Pg
