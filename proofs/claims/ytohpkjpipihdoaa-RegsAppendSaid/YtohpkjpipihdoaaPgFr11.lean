/- A capital name adds to what is there. -/
import Derived.Test.YtohpkjpipihdoaaPgFr8a
import Derived.Test.YtohpkjpipihdoaaPgFr9
namespace Go.Pg
open Go Go.Proofs

/-- What a register of so many parts is. -/
def wantR (ln : Bool) (ps : LsR) : RgV := if ln = true then (1, ps) else (0, [ps.flatten])
theorem join_want (ln : Bool) (ps : LsR) (p : List UInt8) : joinR (wantR ln ps) (if ln = true then (1, [p]) else (0, [p])) = wantR ln (ps ++ [p]) := by
  cases ln with
  | true => rfl
  | false => simp [wantR, joinR]
theorem want_lsz (ln : Bool) (ps : LsR) (n : Nat) (hl : ps.length ≤ 12) (hp : ∀ p ∈ ps, p.length ≤ 50) : lsz (wantR ln ps).2 ≤ 4096 := by
  have h1 : lsz ps ≤ ps.length * 51 := by
    clear hl
    induction ps with
    | nil => simp [lsz]
    | cons a l ih =>
      have h2 := hp a List.mem_cons_self
      have h3 := ih fun p h => hp p (List.mem_cons_of_mem _ h)
      rw [lsz_cons, List.length_cons]
      omega
  have h2 : (ps.flatten.length : Int) ≤ lsz ps := by
    clear h1 hl hp
    induction ps with
    | nil => simp [lsz]
    | cons a l ih => rw [lsz_cons, List.flatten_cons, List.length_append]; omega
  unfold wantR
  split
  · show lsz ps ≤ _; omega
  · show lsz [ps.flatten] ≤ _
    rw [lsz_cons, lsz_nil]; omega

/-- The state behind so many. -/
def stA (k : UInt8) (ln : Bool) (ps : LsR) : Rgs := if ps = [] then [] else [(k, wantR ln ps), (34, wantR ln ps)]
theorem stA_stock (k : UInt8) (ln : Bool) (ps : LsR) (hl : ps.length ≤ 12) (hp : ∀ p ∈ ps, p.length ≤ 50) : stockR (stA k ln ps) := by
  unfold stA
  split
  · exact stock_nil
  · intro k' v h
    simp only [look1] at h
    split at h
    · cases h; exact want_lsz ln ps 0 hl hp
    · split at h
      · cases h; exact want_lsz ln ps 0 hl hp
      · cases h
theorem stA_step {c : UInt8} (hu : isUp c = true) (ln : Bool) (ps : LsR) (p : List UInt8) (hl : ps.length < 12) (hp : ∀ q ∈ ps ++ [p], q.length ≤ 50) :
    setR (upd 48) (stA (c + 32) ln ps) c (if ln = true then (1, [p]) else (0, [p])) = (0, stA (c + 32) ln (ps ++ [p])) := by
  have hne := up_ne hu
  have hk := up_key hu
  have hw := want_lsz ln (ps ++ [p]) 0 (by rw [List.length_append]; simp; omega) hp
  have hlow := up_low hu
  have hnn : ps ++ [p] ≠ [] := by simp
  have hst : stA (c + 32) ln (ps ++ [p]) = [(c + 32, wantR ln (ps ++ [p])), (34, wantR ln (ps ++ [p]))] := if_neg hnn
  have hput : putR (stA (c + 32) ln ps) c (if ln = true then (1, [p]) else (0, [p])) = (0, upd (c + 32) (wantR ln (ps ++ [p])) (stA (c + 32) ln ps)) := by
    have hn : namedR (stA (c + 32) ln ps) c (if ln = true then (1, [p]) else (0, [p])) = (c + 32, wantR ln (ps ++ [p]), true) := by
      unfold namedR
      rw [if_neg (by rw [hlow]; simp), if_pos hu]
      unfold stA
      by_cases h0 : ps = []
      · subst h0
        rw [if_pos rfl]
        cases ln <;> simp [look1, wantR]
      · rw [if_neg h0]
        have hl1 : look1 (c + 32) [(c + 32, wantR ln ps), (34, wantR ln ps)] = some (wantR ln ps) := by simp [look1]
        rw [hl1]
        show (c + 32, joinR (wantR ln ps) _, true) = _
        rw [join_want]
    unfold putR
    rw [hn, if_pos rfl, if_neg (show ¬ lsz (wantR ln (ps ++ [p])).2 > 4096 by omega)]
  unfold setR
  rw [if_neg hne.2.2, if_pos ⟨hne.1, hne.2.1⟩, hput, if_pos rfl, gname_up hu, hst]
  have hl2 : look1 (c + 32) (upd (c + 32) (wantR ln (ps ++ [p])) (stA (c + 32) ln ps)) = some (wantR ln (ps ++ [p])) := by rw [look1_upd, if_pos rfl]
  show (0, upd 34 ((look1 (c + 32) (upd (c + 32) (wantR ln (ps ++ [p])) (stA (c + 32) ln ps))).getD (0, [])) (upd (c + 32) (wantR ln (ps ++ [p])) (stA (c + 32) ln ps))) = _
  rw [hl2, Option.getD_some]
  unfold stA
  split
  · simp [upd, hk]
  · simp [upd, hk]

theorem take_succ2 {α : Type} (l : List α) (k : Nat) (d : α) (h : k < l.length) : l.take (k + 1) = l.take k ++ [l.getD k d] := by
  rw [List.take_add_one, List.getD_eq_getElem?_getD, List.getElem?_eq_getElem h]; rfl

set_option maxRecDepth 20000 in
set_option maxHeartbeats 8000000 in
theorem calls_RegsAppend (parts : LsR) (ln : Bool) (name : UInt8) (hbig : parts.length ≤ 8796093021952) (hstr : ∀ i, (parts.getD i []).length ≤ 140737488355328) : CallsR Try.prog 13 [.sl 1 (parts.map .str), .bool ln, .int .u8 name.toNat] [] (.bool true) [] := by
  refine callsR_of (mrg := true) (dyn := [23]) (cLaw19) mixed Try.func13 rfl (by simp [Try.ntmps13]) (by kernel_rfl) ?_
  rw [show Try.f13.results.toList = [.tmp 6] from by kernel_rfl]
  by_cases hl : parts.length > 12 ∨ parts.length = 0
  · have hc : (decide ((parts.length : Int) > 12) || (parts.length : Int) == 0) = true := by
      rcases hl with h | h
      · rw [show decide ((parts.length : Int) > 12) = true from decide_eq_true (by omega)]; rfl
      · rw [show ((parts.length : Int) == 0) = true by rw [h]; rfl, Bool.or_true]
    simp (maxSteps := 4000000) only [↓wpA_H, ↓wpH_skip, ↓wpH_ret, ↓wpH_seq, ↓wpH_cond, ↓wpH_region, ↓iselH_true, ↓iselH_false, bselH_false, runH_nil, runH_cons, gw, gselH_plain, gselH_if, kselH_1, cselH_bool, gkind, ↓chk, justK, ↓oneK, ↓pureK, envOf, ↓thenA_normal, ↓thenA_ret, ↓stepEv, opnd, Pg.look, binK, intOp, dstOf, Bool.not_true, Bool.false_eq_true, false_implies, implies_true, imp_self, true_and, and_true, pickC, pickV, unc, gof, mux, mergeK, condsL, valV, heapV, footV, binV, intV, alives, closeQ_nil, diagQ_zero, Nat.reduceAdd, mergeable, look_stripE, ofV, ofLeaf, sameK, retA, resK, tupA, subA, subQ, ptrsE, frzO, subF, subG, pickOf, frzE, frzC, frz0, frzH, Pg.freeze, List.foldl_nil, subOs, subEv, subV_succ, subM, slen, ↓callT, callC, callV, callH, normArgs, resL, shiftR, shift1, Op.operands, Call.operands, Array.toList_append, List.getElem?_toArray, List.getElem?_cons_succ, List.getElem?_cons_zero, Option.bind_some, Option.getD_some, reduceCtorEq, Nat.reduceEqDiff, Nat.reduceAdd, List.nil_append, List.append_nil, List.length_nil, List.map_nil, Nat.zero_add, ite_true, ite_false, Option.some.injEq, AV.int.injEq, Prod.mk.injEq, Bool.if_true_left, decide_eq_true_eq, decide_eq_false_iff_not, Int.not_lt, Bool.and_self, and_self, Bool.not_eq_true', exists_eq_left', pickOK_nil, List.length_map, List.toList_toArray, lNil_dec, List.contains_cons, List.contains_nil, Nat.reduceBEq, Bool.or_self, List.range'_zero, C1by_ns, C1by_pre, C1by_r, C1by_H, optP_some, optV_some, optH_some, C1by_it, regH_none, isNext, nextF, nextG, selC_false, ↓msel, muC, ↓callP, C1by_mu, C1mby_mu, encE_nil, tk50, kKnown19, kRNew, kRCut, kRYank, kRPut, kRGet, kHReg, kStrings, hFile, rgH, hc]
  have hc : (decide ((parts.length : Int) > 12) || (parts.length : Int) == 0) = false := by
    rw [not_or] at hl
    rw [show decide ((parts.length : Int) > 12) = false from decide_eq_false (by omega), Bool.false_or, beq_eq_false_iff_ne]
    omega
  rw [not_or] at hl
  have hl12 : parts.length ≤ 12 := by omega
  have hl0 : 0 < parts.length := by omega
  obtain ⟨c, hcd⟩ : ∃ c, c = UInt8.ofNat (65 + name.toNat % 26) := ⟨_, rfl⟩
  have h26 : name.toNat % 26 < 26 := Nat.mod_lt _ (by omega)
  have hcn : c.toNat = 65 + name.toNat % 26 := by rw [hcd, UInt8.toNat_ofNat', Nat.mod_eq_of_lt (show 65 + name.toNat % 26 < 2 ^ 8 by omega)]
  have hu : isUp c = true := by simp only [isUp, Bool.and_eq_true, decide_eq_true_eq]; omega
  have hc32 : (c + 32).toNat = 97 + name.toNat % 26 := by rw [UInt8.toNat_add, hcn, show (32 : UInt8).toNat = 32 from rfl]; omega
  have q26 : (name.toNat : Int).tmod 26 = ((name.toNat % 26 : Nat) : Int) := rfl
  have wc : IntKind.u8.wrap (65 + ((name.toNat % 26 : Nat) : Int)) = (c.toNat : Int) := by
    rw [hcn]; simp [IntKind.wrap, IntKind.bits, IntKind.signed]; omega
  have wk : IntKind.u8.wrap (97 + ((name.toNat % 26 : Nat) : Int)) = ((c + 32).toNat : Int) := by
    rw [hc32]; simp [IntKind.wrap, IntKind.bits, IntKind.signed]; omega
  have hlow : isLow (c + 32) = true := by simp only [isLow, Bool.and_eq_true, decide_eq_true_eq]; omega
  simp (maxSteps := 4000000) only [↓wpA_H, ↓wpH_skip, ↓wpH_seq, ↓wpH_cond, ↓wpH_block, ↓wpH_loop, ↓wpH_region, ↓iselH_false, bselH_false, runH_nil, runH_cons, gw, gselH_plain, gselH_if, kselH_1, cselH_bool, gkind, ↓chk, justK, ↓oneK, ↓pureK, envOf, ↓thenA_normal, ↓stepEv, opnd, Pg.look, binK, intOp, dstOf, Bool.not_false, Bool.not_true, Bool.false_eq_true, false_implies, implies_true, imp_self, true_and, and_true, pickC, pickV, unc, gof, mux, mergeK, condsL, valV, heapV, footV, binV, intV, Nat.reduceAdd, mergeable, look_stripE, ofV, ofLeaf, sameK, Pg.freeze, List.foldl_nil, slen, ↓callT, callC, callV, callH, normArgs, resL, shiftR, shift1, Op.operands, Call.operands, Array.toList_append, List.getElem?_toArray, List.getElem?_cons_succ, List.getElem?_cons_zero, Option.bind_some, Option.getD_some, reduceCtorEq, Nat.reduceEqDiff, Nat.reduceAdd, List.nil_append, List.append_nil, List.length_cons, List.length_nil, List.map_cons, List.map_nil, Nat.zero_add, ite_true, ite_false, Option.some.injEq, AV.int.injEq, Prod.mk.injEq, Bool.if_true_left, decide_eq_true_eq, decide_eq_false_iff_not, Int.not_lt, List.all_nil, Bool.and_self, and_self, Bool.not_eq_true', exists_eq_left', List.length_map, List.toList_toArray, lNil_dec, List.contains_cons, List.contains_nil, Nat.reduceBEq, Bool.or_self, List.range'_zero, C1by_ns, C1by_pre, C1by_r, C1by_H, optP_some, optV_some, optH_some, List.getD_cons_zero, List.getD_cons_succ, C1by_it, regH_none, isNext, nextF, nextG, selC_false, ↓msel, muC, ↓callP, ↓callU, ↓callUV, ↓callUH, ↓callUF, C1by_mu, C1mby_mu, runM_eq, mkM_some, hNil_dec, encE_nil, pickF, nodupB, somes, fresh, gids, gid, putO, ren, renL, renO, List.range'_succ, tk50, kKnown19, kRNew, kRCut, kRYank, kRPut, kRGet, kHReg, kStrings, hFile, rgH, hc]
  refine loopH_intro (α := Nat) (fun i => ([(9, .int .i64 i), (0, .sl 1 (parts.map .str)), (1, .bool ln), (2, .int .u8 name.toNat), (7, .ptr 0 1 1 0 0), (8, .str (parts.take i).flatten)], rgH (stA (c + 32) ln (parts.take i)))) (fun i => i ≤ parts.length ∧ ∀ q ∈ parts.take i, q.length ≤ 50) (fun i => parts.length - i) 0 ⟨Nat.zero_le _, fun q h => by simp at h⟩ ?_ ?_
  · simp (maxSteps := 4000000) only [Pg.look, Bool.and_true, Bool.false_eq_true, true_and, and_true, alives, aliveO, nxtQ, hdS, pairsA, frzA, closeQ_nil, closeQ_succ, diagQ_zero, subA, subQ, ptrsE, pairsO, frzO, subF, subG, pickOf, assocN, pairsE, pairsC, pairsL, pairs0, frzE, frzC, frzL, frz0, frzH, Pg.freeze, List.foldl_nil, subOs, subO, subEv, subV_succ, subM, AV.cells, AV.pureLeaf, AV.pureB, List.getElem?_cons_succ, List.getElem?_cons_zero, reduceCtorEq, Nat.reduceEqDiff, List.nil_append, List.append_nil, List.cons_append, Nat.zero_add, ite_true, ite_false, List.all_cons, List.all_nil, and_self, Int.cast_ofNat_Int, List.take_zero, Nat.lt_irrefl, Nat.not_lt_zero, rgH]
    (repeat' first | exact rfl | apply And.intro | exact subX_eq rfl (pureB_bytes _) | exact subX_eq rfl (pureB_aPs _) | exact subX_eq rfl rfl | decide | omega | apply subX_one)
    all_goals try simp (maxSteps := 4000000) only [subL]
  rintro i ⟨gi, gq⟩
  have hi : i ≤ parts.length := gi
  have hq : ∀ q ∈ parts.take i, q.length ≤ 50 := gq
  clear gi gq
  have htl : (parts.take i).length ≤ 12 := by rw [List.length_take]; omega
  have hst := stA_stock (c + 32) ln (parts.take i) htl hq
  by_cases hlt : i < parts.length
  · have hc1 : decide ((i : Int) < (parts.length : Int)) = true := decide_eq_true (by omega)
    have w1 : IntKind.i64.wrap ((i : Int) + 1) = ((i + 1 : Nat) : Int) := by rw [wrap64 (by omega) (by omega)]; omega
    have hts := take_succ2 parts i [] hlt
    have hcut : (parts.take (i + 1)).drop i = [parts.getD i []] := by
      rw [hts, List.drop_append_of_le_length (by rw [List.length_take]; omega), List.drop_of_length_le (by rw [List.length_take]; omega)]; rfl
    have hcut2 : (parts.drop i).take 1 = [parts.getD i []] := take1_drop parts i [] hlt
    obtain ⟨p, hp⟩ : ∃ p, p = parts.getD i [] := ⟨_, rfl⟩
    have hcut3 : (parts.drop i).take (i + 1 - i) = [parts.getD i []] := by rw [Nat.add_sub_cancel_left]; exact hcut2
    rw [← hp] at hts hcut hcut2 hcut3
    by_cases h50 : p.length > 50
    · have c50 : decide ((p.length : Int) > 50) = true := decide_eq_true (by omega)
      simp (maxSteps := 4000000) only [↓wpA_H, ↓wpH_skip, ↓wpH_ret, ↓wpH_seq, ↓wpH_cond, ↓wpH_block, ↓wpH_region, ↓iselH_true, bselH_false, runH_nil, runH_cons, gw, gselH_plain, cselH_bool, ↓chk, justK, noW, ↓oneK, ↓pureK, ↓heapK, ↓thenA_normal, ↓thenA_ret, ↓blockA_ret, ↓stepEv, opnd, Pg.look, binK, intOp, Bool.false_eq_true, implies_true, true_and, and_true, valV, heapV, footV, binV, intV, alives, closeQ_nil, diagQ_zero, ofV, ofLeaf, retA, resK, tupA, subA, subQ, ptrsE, frzO, subF, subG, pickOf, frzE, frzC, frz0, frzH, Pg.freeze, List.foldl_nil, subOs, subEv, subV_succ, subM, slen, ldCells, AV.cells, TK.cells, List.getElem?_cons_zero, Option.getD_some, reduceCtorEq, Nat.reduceEqDiff, List.append_nil, List.length_nil, ite_true, ite_false, Option.some.injEq, AV.int.injEq, and_self, exists_eq_left', pickOK_nil, List.length_map, List.contains_cons, List.contains_nil, Nat.reduceBEq, Bool.or_self, getD_str, Int.toNat_natCast, regH_none, isNext, nextF, nextG, selC_false, encE_nil, tk9, dz9, tk50, kKnown19, kRNew, kRCut, kRYank, kRPut, kRGet, kHReg, kStrings, hFile, rgH, hc1, ← hp, c50]
      exact ⟨by omega, hlt⟩
    · have c50 : decide ((p.length : Int) > 50) = false := decide_eq_false (by omega)
      have hq' : ∀ q ∈ parts.take i ++ [p], q.length ≤ 50 := fun q h => by
        rcases List.mem_append.1 h with h | h
        · exact hq q h
        · simp only [List.mem_singleton] at h; subst h; omega
      have hstep := stA_step hu ln (parts.take i) p (by rw [List.length_take]; omega) hq'
      have hfl : (parts.take i).flatten ++ p = (parts.take (i + 1)).flatten := by rw [hts]; simp
      have hflz : (parts.take i).flatten.length ≤ 4096 := by
        have := want_lsz false (parts.take i) 0 htl hq
        have e : lsz (wantR false (parts.take i)).2 = ((parts.take i).flatten.length : Int) + 1 + 0 := by simp [wantR, lsz]
        omega
      have hoa : lsz [p] ≤ 576460752303423488 := by rw [lsz_cons, lsz_nil]; omega
      cases ln with
      | true =>
        rw [if_pos rfl, ← hts] at hstep
        simp (maxSteps := 4000000) only [↓wpA_H, ↓wpH_skip, ↓wpH_seq, ↓wpH_cond, ↓wpH_block, ↓wpH_region, ↓iselH_true, ↓iselH_false, bselH_false, runH_nil, runH_cons, gw, gselH_plain, cselH_bool, ↓chk, justK, noW, ↓oneK, ↓pureK, ↓heapK, ↓thenA_normal, ↓blockA_normal, ↓stepEv, opnd, Pg.look, binK, intOp, strOp, Bool.and_true, Bool.not_false, Bool.false_eq_true, implies_true, true_and, and_true, valV, heapV, footV, binV, intV, strV, cutV, alives, aliveO, nxtQ, hdS, pairsA, frzA, closeQ_nil, closeQ_succ, diagQ_zero, Nat.reduceAdd, ofV, ofLeaf, subA, subQ, ptrsE, pairsO, frzO, subF, subG, pickOf, assocN, pairsE, pairsC, pairsL, pairs0, frzE, frzC, frzL, frz0, frzH, Pg.freeze, List.foldl_nil, subOs, subO, subEv, subV_succ, subM, slen, ldCells, objAt, sliceL, ↓callT, normA, normC, normL, resL, res8_eq, res_succ, resM, AV.cells, TK.cells, AV.definite, AV.leaf, AV.leafy, AV.pureLeaf, AV.pureB, putCells, lay, buildL, List.getElem?_cons_succ, List.getElem?_cons_zero, Option.map_some, Option.map_none, Option.getD_some, reduceCtorEq, Nat.reduceEqDiff, Nat.reduceAdd, Nat.reduceSub, List.nil_append, List.append_nil, List.cons_append, List.length_cons, List.length_nil, List.map_cons, List.map_nil, List.set_cons_zero, List.set_cons_succ, Nat.zero_add, ite_true, ite_false, Option.some.injEq, Option.isSome_some, AV.int.injEq, AV.agg.injEq, ne_eq, List.all_cons, List.all_nil, Bool.and_self, and_self, exists_eq_left', List.length_map, cInt_dec, cByte_dec, cStr_dec, cSl_dec, cAgg_dec, lOne_dec, lCons_dec, dec2_some, List.contains_cons, List.contains_nil, Nat.reduceBEq, Bool.or_self, decL_nil, decL_cons, consO_some, List.range'_zero, bne_self_eq_false, ← List.map_drop, ← List.map_take, getD_str, Int.toNat_natCast, List.getD_cons_zero, List.getD_cons_succ, cutL, List.drop_zero, List.drop_succ_cons, List.take_succ_cons, List.take_zero, Nat.add_zero, Nat.sub_zero, Nat.sub_self, Nat.reduceLeDiff, Nat.le_refl, Nat.lt_irrefl, List.drop_nil, List.take_nil, Nat.not_lt_zero, Nat.zero_lt_succ, regH_none, isNext, nextF, nextG, selC_false, ↓msel, muC, ↓callU, ↓callUV, ↓callUH, ↓callUF, C1by_mu, C1mby_mu, runM_eq, mkM_some, hNil_dec, hCons_dec, app3_some, hP_dec, hP1_some, hP2_some, hO1_some, hM1_mp, hMp_dec, hB1_some, hB2_arr, hBox_dec, hAgg_dec, encE_nil, pickF, nodupB, somes, fresh, gids, gid, putO, ren, renL, renO, tk3, tk9, dz9, tk50, tk52, tz52, dz52, kKnown19, kRNew, kRCut, kRYank, kRPut, kRGet, kHReg, kStrings, hFile, decE_rg, rgH, hc1, w1, ← hp, c50, hcut3, q26, wc, hstep, hfl]
        refine ⟨⟨by omega, hlt⟩, ⟨by omega, by omega, by omega⟩, by decide, ⟨hst, by simp, hoa⟩, ⟨by omega, hlt⟩, by omega, i + 1, ⟨by omega, by rw [hts]; exact hq'⟩, by omega, ?_⟩
        (repeat' first | exact rfl | apply And.intro | exact subX_eq rfl (pureB_bytes _) | exact subX_eq rfl (pureB_aPs _) | exact subX_eq rfl rfl | decide | omega | apply subX_one)
        all_goals try simp (maxSteps := 4000000) only [subL]
      | false =>
        rw [if_neg (by simp), ← hts] at hstep
        simp (maxSteps := 4000000) only [↓wpA_H, ↓wpH_skip, ↓wpH_seq, ↓wpH_cond, ↓wpH_block, ↓wpH_region, ↓iselH_true, ↓iselH_false, bselH_false, runH_nil, runH_cons, gw, gselH_plain, cselH_bool, ↓chk, justK, noW, ↓oneK, ↓pureK, ↓heapK, ↓thenA_normal, ↓blockA_normal, ↓stepEv, opnd, Pg.look, binK, intOp, strOp, Bool.and_true, Bool.not_false, Bool.false_eq_true, implies_true, true_and, and_true, valV, heapV, footV, binV, intV, strV, cutV, alives, aliveO, nxtQ, hdS, pairsA, frzA, closeQ_nil, closeQ_succ, diagQ_zero, Nat.reduceAdd, ofV, ofLeaf, subA, subQ, ptrsE, pairsO, frzO, subF, subG, pickOf, assocN, pairsE, pairsC, pairsL, pairs0, frzE, frzC, frzL, frz0, frzH, Pg.freeze, List.foldl_nil, subOs, subO, subEv, subV_succ, subM, slen, ldCells, objAt, sliceL, ↓callT, normA, normC, normL, resL, res8_eq, res_succ, resM, AV.cells, TK.cells, AV.definite, AV.leaf, AV.leafy, AV.pureLeaf, AV.pureB, putCells, lay, buildL, List.getElem?_cons_succ, List.getElem?_cons_zero, Option.map_some, Option.map_none, Option.getD_some, reduceCtorEq, Nat.reduceEqDiff, Nat.reduceAdd, Nat.reduceSub, List.nil_append, List.append_nil, List.cons_append, List.length_cons, List.length_nil, List.map_cons, List.map_nil, List.set_cons_zero, List.set_cons_succ, Nat.zero_add, ite_true, ite_false, Option.some.injEq, Option.isSome_some, AV.int.injEq, AV.agg.injEq, ne_eq, List.all_cons, List.all_nil, Bool.and_self, and_self, exists_eq_left', List.length_map, cInt_dec, cByte_dec, cStr_dec, cSl_dec, cAgg_dec, lOne_dec, lCons_dec, dec2_some, List.contains_cons, List.contains_nil, Nat.reduceBEq, Bool.or_self, decL_nil, decL_cons, consO_some, List.range'_zero, bne_self_eq_false, ← List.map_drop, ← List.map_take, getD_str, Int.toNat_natCast, List.getD_cons_zero, List.getD_cons_succ, cutL, List.drop_zero, List.drop_succ_cons, List.take_succ_cons, List.take_zero, Nat.sub_zero, Nat.sub_self, Nat.le_refl, Nat.lt_irrefl, List.drop_nil, List.take_nil, Nat.not_lt_zero, Nat.zero_lt_succ, regH_none, isNext, nextF, nextG, selC_false, ↓msel, muC, ↓callU, ↓callUV, ↓callUH, ↓callUF, C1by_mu, C1mby_mu, runM_eq, mkM_some, hNil_dec, hCons_dec, app3_some, hP_dec, hP1_some, hP2_some, hO1_some, hM1_mp, hMp_dec, hB1_some, hB2_arr, hBox_dec, hAgg_dec, encE_nil, pickF, nodupB, somes, fresh, gids, gid, putO, ren, renL, renO, tk9, dz9, tk50, tk52, tz52, dz52, kKnown19, kRNew, kRCut, kRYank, kRPut, kRGet, kHReg, kStrings, hFile, decE_rg, rgH, hc1, w1, ← hp, c50, hcut3, q26, wc, hstep, hfl]
        refine ⟨⟨by omega, hlt⟩, ⟨by omega, by omega, by omega⟩, by decide, ⟨hst, by simp, hoa⟩, ⟨by omega, hlt⟩, by omega, i + 1, ⟨by omega, by rw [hts]; exact hq'⟩, by omega, ?_⟩
        (repeat' first | exact rfl | apply And.intro | exact subX_eq rfl (pureB_bytes _) | exact subX_eq rfl (pureB_aPs _) | exact subX_eq rfl rfl | decide | omega | apply subX_one)
        all_goals try simp (maxSteps := 4000000) only [subL]
  · obtain rfl : i = parts.length := by omega
    have hc1 : decide ((parts.length : Int) < (parts.length : Int)) = false := decide_eq_false (by omega)
    rw [List.take_length] at hst hq
    have hne : parts ≠ [] := fun e => by rw [e] at hl0; simp at hl0
    have hs0 : stA (c + 32) ln parts = [(c + 32, wantR ln parts), (34, wantR ln parts)] := if_neg hne
    obtain ⟨m, hm⟩ : ∃ m, m = stA (c + 32) ln parts := ⟨_, rfl⟩
    have g1 : look1 (gname (c + 32)) m = some (wantR ln parts) := by rw [gname_low hlow, hm, hs0]; simp [look1]
    have g2 : look1 (gname 0) m = some (wantR ln parts) := by
      rw [show gname 0 = 34 from rfl, hm, hs0]; simp [look1, up_key hu]
    rw [← hm] at hst
    rw [List.take_length, ← hm]
    cases ln with
    | true =>
      have hw : wantR true parts = (1, parts) := rfl
      rw [hw] at g1 g2
      simp (maxSteps := 4000000) only [↓wpA_H, ↓wpH_ret, ↓wpH_exit, ↓wpH_seq, ↓wpH_cond, ↓wpH_region, bselH_true, ↓iselH_true, ↓iselH_false, bselH_false, runH_nil, runH_cons, ↓fixG, setG, gw, gselH_plain, gselH_if, kselH_2, cselH_bool, gkind, ↓chk, justK, noW, ↓oneK, ↓pureK, ↓heapK, ↓thenA_normal, ↓thenA_exit, ↓blockA_exit, ↓stepEv, opnd, Pg.look, binK, intOp, dstOf, Bool.and_true, Bool.not_false, Bool.not_true, Bool.false_eq_true, Bool.true_eq_false, false_implies, implies_true, true_and, and_true, forall_const, pickC, pickV, unc, gof, mux, valV, heapV, footV, binV, intV, alives, closeQ_nil, diagQ_zero, Nat.reduceAdd, mergeable, ofV, ofLeaf, retA, resK, tupA, subA, subQ, ptrsE, frzO, subF, subG, pickOf, frzE, frzC, frz0, frzH, Pg.freeze, List.foldl_nil, subOs, subEv, subV_succ, subM, slen, ldCells, objAt, ↓callT, callC, callV, callH, normArgs, normA, normC, normL, resL, res8_eq, res_succ, resM, shiftR, shift1, AV.cells, TK.cells, AV.definite, AV.leaf, AV.leafy, putCells, lay, buildL, List.getElem?_toArray, List.getElem?_cons_succ, List.getElem?_cons_zero, Option.bind_some, Option.getD_some, reduceCtorEq, Nat.reduceEqDiff, Nat.reduceAdd, Nat.reduceSub, List.nil_append, List.append_nil, List.cons_append, List.length_cons, List.length_nil, List.map_cons, List.map_nil, List.set_cons_zero, List.set_cons_succ, Nat.zero_add, Int.reduceToNat, ite_true, ite_false, Option.some.injEq, Option.isSome_some, AV.int.injEq, AV.agg.injEq, Prod.mk.injEq, ne_eq, List.all_cons, List.all_nil, Bool.and_self, and_self, exists_eq_left', pickOK_nil, List.length_map, cInt_dec, rg1, cByte_dec, cByte_lit, Int.reduceLE, Int.reduceLT, UInt8.reduceOfNat, cSl_dec, cAgg_dec, lOne_dec, lCons_dec, dec2_some, List.contains_cons, List.contains_nil, Nat.reduceBEq, Bool.or_self, Bool.or_false, beq_self_eq_true, List.range'_zero, Nat.reducePow, decL_str, C1by_ns, C1by_pre, C1by_r, C1by_H, optP_some, optV_some, optH_some, List.getD_cons_zero, List.getD_cons_succ, cutL, List.drop_zero, List.drop_succ_cons, List.take_succ_cons, List.take_zero, Nat.sub_zero, Nat.sub_self, Nat.reduceLeDiff, Nat.le_refl, Nat.mul_one, List.drop_nil, List.take_nil, Nat.zero_lt_succ, C1by_it, regH_none, isNext, nextF, nextG, selC_false, ↓msel, muC, ↓callP, ↓callU, ↓callUV, ↓callUH, ↓callUF, C1by_mu, C1mby_mu, runM_eq, mkM_some, hNil_dec, hCons_dec, app3_some, hP_dec, hP1_some, hP2_some, hO1_some, hM1_mp, hMp_dec, hB1_some, hB2_arr, hBox_dec, hAgg_dec, encE_nil, pickF, nodupB, somes, fresh, gids, gid, putO, ren, renL, renO, eb9, tk50, tk52, tz52, dz52, kKnown19, kRNew, kRCut, kRYank, kRPut, kRGet, kHReg, kStrings, hFile, decE_rg, rgH, hc1, q26, wk, g1, g2]
      exact ⟨by decide, fun v h => by (cases h; show parts.length ≤ _; omega), fun v h => by (cases h; show parts.length ≤ _; omega), by omega⟩
    | false =>
      have hw : wantR false parts = (0, [parts.flatten]) := rfl
      rw [hw] at g1 g2
      simp (maxSteps := 4000000) only [↓wpA_H, ↓wpH_skip, ↓wpH_ret, ↓wpH_exit, ↓wpH_seq, ↓wpH_cond, ↓wpH_region, bselH_true, ↓iselH_true, ↓iselH_false, bselH_false, runH_nil, runH_cons, ↓fixG, setG, gw, gselH_plain, gselH_if, kselH_2, cselH_bool, gkind, ↓chk, justK, noW, ↓oneK, ↓pureK, ↓heapK, ↓thenA_normal, ↓thenA_exit, ↓blockA_exit, ↓stepEv, opnd, Pg.look, binK, intOp, dstOf, Bool.and_true, Bool.not_false, Bool.not_true, Bool.false_eq_true, Bool.true_eq_false, false_implies, implies_true, true_and, and_true, forall_const, pickC, pickV, unc, gof, mux, valV, heapV, footV, binV, intV, alives, closeQ_nil, diagQ_zero, Nat.reduceAdd, mergeable, ofV, ofLeaf, retA, resK, tupA, subA, subQ, ptrsE, frzO, subF, subG, pickOf, frzE, frzC, frz0, frzH, Pg.freeze, List.foldl_nil, List.foldl_cons, subOs, subEv, subV_succ, subM, slen, ldCells, objAt, ↓callT, callC, callV, callH, normArgs, normA, normC, normL, resL, res8_eq, res_succ, resM, shiftR, shift1, AV.cells, TK.cells, AV.definite, AV.leaf, AV.leafy, AV.pureLeaf, AV.pureB, putCells, lay, buildL, frzAt, List.getElem?_toArray, List.getElem?_cons_succ, List.getElem?_cons_zero, Option.bind_some, Option.getD_some, reduceCtorEq, Nat.reduceEqDiff, Nat.reduceAdd, Nat.reduceSub, List.nil_append, List.append_nil, List.cons_append, List.length_cons, List.length_nil, List.map_cons, List.map_nil, List.set_cons_zero, List.set_cons_succ, Nat.zero_add, Int.reduceToNat, ite_true, ite_false, Option.some.injEq, Option.isSome_some, AV.int.injEq, AV.agg.injEq, Prod.mk.injEq, ne_eq, List.all_cons, List.all_nil, Bool.and_self, and_self, exists_eq_left', pickOK_nil, List.length_map, cInt_dec, rg1, cByte_dec, cByte_lit, Int.reduceLE, Int.reduceLT, UInt8.reduceOfNat, cStr_dec, cSl_dec, cAgg_dec, lOne_dec, lCons_dec, dec2_some, List.contains_cons, List.contains_nil, Nat.reduceBEq, Bool.or_self, Bool.or_false, beq_self_eq_true, decL_nil, decL_cons, consO_some, List.range'_zero, Nat.reducePow, C1by_ns, C1by_pre, C1by_r, C1by_H, optP_some, optV_some, optH_some, List.getD_cons_zero, List.getD_cons_succ, cutL, List.drop_zero, List.drop_succ_cons, List.take_succ_cons, List.take_zero, Nat.sub_zero, Nat.sub_self, Nat.reduceLeDiff, Nat.le_refl, Nat.mul_one, List.drop_nil, List.take_nil, Nat.zero_lt_succ, C1by_it, regH_none, isNext, nextF, nextG, selC_false, ↓msel, muC, ↓callP, ↓callU, ↓callUV, ↓callUH, ↓callUF, C1by_mu, C1mby_mu, runM_eq, mkM_some, hNil_dec, hCons_dec, app3_some, hP_dec, hP1_some, hP2_some, hO1_some, hM1_mp, hMp_dec, hB1_some, hB2_arr, hBox_dec, hAgg_dec, encE_nil, pickF, nodupB, somes, fresh, gids, gid, putO, ren, renL, renO, eb9, tk50, tk52, tz52, dz52, kKnown19, kRNew, kRCut, kRYank, kRPut, kRGet, kHReg, kStrings, hFile, decE_rg, rgH, hc1, q26, wk, g1, g2]
      exact ⟨by decide, fun v h => by (cases h; simp)⟩
end Go.Pg
