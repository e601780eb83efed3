/- Registers: sizes, copies. -/
import Derived.Test.YtohpkjpipihdoaaPgFx0
import Derived.Test.YtohpkjpipihdoaaPgFx0
import Derived.Test.YtohpkjpipihdoaaPgHcd
import Derived.Test.YtohpkjpipihdoaaPgNil
import Derived.Test.YtohpkjpipihdoaaPgLst
namespace Go.Pg
open Go Go.Proofs

abbrev LsR := List (List UInt8)
abbrev RgV := Int × LsR
abbrev lRgV : CdL RgV := lCons (cInt .i64) (lOne cStrs)
abbrev cRgV : Cd RgV := cAgg lRgV
abbrev aRg (r : RgV) : AV := .agg [.int .i64 r.1, .sl 1 (r.2.map .str)]
theorem cRgV_enc (r : RgV) : cRgV.enc r = aRg r := rfl
theorem cRgV_dec (k : Int) (l : LsR) : cRgV.dec (.agg [.int .i64 k, .sl 1 (l.map .str)]) = some (k, l) := by
  show dec2 ((cInt .i64).dec (.int .i64 k)) (cStrs.dec (.sl 1 (l.map .str))) = _
  rw [cInt_dec, cSl_dec, decL_str]; rfl
theorem cRgV_ed (r : RgV) : cRgV.dec (cRgV.enc r) = some r := cRgV_dec r.1 r.2

def lsz (ls : LsR) : Int := (ls.map fun s => (s.length : Int) + 1).sum
/-- Not too many lines. -/
def fitR (ls : LsR) : Prop := ls.length ≤ 1000000 ∧ lsz ls ≤ 1152921504606846976
theorem lsz_take (ls : LsR) (i : Nat) (h : i < ls.length) : lsz (ls.take (i + 1)) = lsz (ls.take i) + ((ls.getD i []).length + 1) := by
  have e : ls.take (i + 1) = ls.take i ++ [ls.getD i []] := by
    rw [List.take_succ_eq_append_getElem h, List.getD_eq_getElem?_getD, List.getElem?_eq_getElem h]; rfl
  rw [e]
  simp only [lsz, List.map_append, List.sum_append, List.map_cons, List.map_nil, List.sum_cons, List.sum_nil]
  omega
theorem lsz_cons (a : List UInt8) (l : LsR) : lsz (a :: l) = (a.length : Int) + 1 + lsz l := by simp [lsz]
theorem lsz_nil : lsz [] = 0 := rfl
theorem lsz_app (a b : LsR) : lsz (a ++ b) = lsz a + lsz b := by simp [lsz]
theorem lsz_nonneg (l : LsR) : 0 ≤ lsz l := by
  induction l with
  | nil => exact Int.le_refl _
  | cons a l ih => rw [lsz_cons]; omega
theorem lsz_len (l : LsR) : (l.length : Int) ≤ lsz l := by
  induction l with
  | nil => exact Int.le_refl _
  | cons a l ih => rw [lsz_cons, List.length_cons]; omega
theorem lsz_take_le (l : LsR) (i : Nat) : 0 ≤ lsz (l.take i) ∧ lsz (l.take i) ≤ lsz l := by
  have h := lsz_app (l.take i) (l.drop i)
  rw [List.take_append_drop] at h
  have h1 := lsz_nonneg (l.take i)
  have h2 := lsz_nonneg (l.drop i)
  omega
theorem lsz_getD (l : LsR) (i : Nat) : ((l.getD i []).length : Int) ≤ lsz l := by
  induction l generalizing i with
  | nil => simp [lsz]
  | cons a l ih =>
    have h0 := lsz_nonneg l
    rw [lsz_cons]
    cases i with
    | zero => simp only [List.getD_cons_zero]; omega
    | succ i => simp only [List.getD_cons_succ]; have := ih i; omega
theorem lsz_fit {ls : LsR} (hs : fitR ls) (i : Nat) (_hi : i ≤ ls.length) : 0 ≤ lsz (ls.take i) ∧ lsz (ls.take i) ≤ 1152921504606846976 := by
  have := lsz_take_le ls i
  have := hs.2
  omega
def kLSize : C1 := C1.by [.sl 1 []] (lOne cStrs) (fun d => fitR d) (fun d => .int .i64 (lsz d)) (fun _ => [])

theorem calls_LSizeR (ls : LsR) (hs : fitR ls) : CallsR Try.prog 32 [.sl 1 (ls.map .str)] [] (.int .i64 (lsz ls)) [] := by
  refine callsR_of (mrg := true) (dyn := []) (CtrOK.nil _) mixed Try.func32 rfl (by simp [Try.ntmps32]) (by kernel_rfl) ?_
  rw [show Try.f32.results.toList = [.tmp 2] from by kernel_rfl]
  simp (maxSteps := 4000000) only [↓wpA_H, ↓wpH_seq, ↓wpH_block, ↓wpH_loop, ↓wpH_region, bselH_false, runH_nil, runH_cons, gw, gselH_plain, ↓chk, justK, ↓oneK, ↓pureK, envOf, ↓thenA_normal, ↓stepEv, opnd, Bool.false_eq_true, implies_true, true_and, valV, heapV, footV, ofV, ofLeaf, List.length_nil, ite_false, and_self, List.contains_nil, regH_none, isNext, nextF, nextG, selC_false]
  have hl := hs.1
  refine loopH_intro (α := Nat) (fun i => ([(0, .sl 1 (ls.map .str)), (2, .int .i64 0), (3, .int .i64 (lsz (ls.take i))), (4, .int .i64 i)], [])) (fun i => i ≤ ls.length) (fun i => ls.length - i) 0 ?_ ?_ ?_
  · simp
  · simp (maxSteps := 4000000) only [Pg.look, true_and, and_true, alives, closeQ_nil, diagQ_zero, subA, subQ, ptrsE, frzO, subF, subG, pickOf, frzE, frzC, frz0, frzH, Pg.freeze, List.foldl_nil, subOs, subEv, subV_succ, subM, reduceCtorEq, Nat.reduceEqDiff, List.append_nil, ite_true, ite_false, and_self, pickOK_nil, Int.cast_ofNat_Int, List.take_zero]
    all_goals simp [lsz]
  · intro i hi
    simp (maxSteps := 4000000) only [↓wpA_H, ↓wpH_skip, ↓wpH_ret, ↓wpH_exit, ↓wpH_seq, ↓wpH_cond, ↓wpH_block, ↓wpH_region, iselH_if, bselH_false, runH_nil, runH_cons, gw, gselH_plain, cselH_bool, ↓chk, justK, noW, ↓oneK, ↓pureK, ↓heapK, ↓thenA_normal, ↓thenA_exit, ↓blockA_normal, ↓blockA_exit, ↓stepEv, opnd, Pg.look, binK, intOp, Bool.false_eq_true, implies_true, true_and, and_true, valV, heapV, footV, binV, intV, alives, closeQ_nil, diagQ_zero, ofV, ofLeaf, retA, resK, tupA, subA, subQ, ptrsE, frzO, subF, subG, pickOf, frzE, frzC, frz0, frzH, Pg.freeze, List.foldl_nil, subOs, subEv, subV_succ, subM, slen, ldCells, AV.cells, TK.cells, List.getElem?_cons_zero, Option.getD_some, reduceCtorEq, Nat.reduceEqDiff, List.append_nil, List.length_nil, ite_true, ite_false, Option.some.injEq, AV.int.injEq, decide_eq_true_eq, decide_eq_false_iff_not, Int.not_lt, and_self, exists_eq_left', pickOK_nil, List.length_map, List.contains_nil, getD_str, Int.toNat_natCast, regH_none, isNext, nextF, nextG, selC_false, tk9, dz9, tk50]
    have h1 := lsz_fit hs i hi
    refine ⟨fun h => ⟨⟨by omega, by omega⟩, i + 1, by omega, by omega, ?_⟩, fun h => ?_⟩
    · have h2 := lsz_getD ls i
      have h3 := hs.2
      rw [lsz_take ls i (by omega), wrap64 (n := ((ls.getD i []).length : Int) + 1) (by omega) (by omega), wrap64 (by omega) (by omega), wrap64 (by omega) (by omega)]
      simp
    · have : i = ls.length := by omega
      subst this
      rw [List.take_length]
theorem ok_LSizeR : C1OK Try.prog 32 kLSize := C1OK.by (by kernel_rfl) (fun d h => calls_LSizeR d h) (fun _ => rfl) (fun _ => rfl)

theorem calls_LSizeC (ls : LsR) (hs : fitR ls) : CallsR Try.prog 51 [.sl 1 (ls.map .str)] [] (.int .i64 (lsz ls)) [] := by
  refine callsR_of (mrg := true) (dyn := []) (CtrOK.nil _) mixed Try.func51 rfl (by simp [Try.ntmps51]) (by kernel_rfl) ?_
  rw [show Try.f51.results.toList = [.tmp 2] from by kernel_rfl]
  simp (maxSteps := 4000000) only [↓wpA_H, ↓wpH_seq, ↓wpH_block, ↓wpH_loop, ↓wpH_region, bselH_false, runH_nil, runH_cons, gw, gselH_plain, ↓chk, justK, ↓oneK, ↓pureK, envOf, ↓thenA_normal, ↓stepEv, opnd, Pg.look, Bool.false_eq_true, implies_true, true_and, and_true, valV, heapV, footV, ofV, ofLeaf, slen, Option.getD_some, reduceCtorEq, Nat.reduceEqDiff, List.length_nil, ite_true, ite_false, Option.some.injEq, AV.int.injEq, and_self, exists_eq_left', List.length_map, List.contains_nil, regH_none, isNext, nextF, nextG, selC_false, tk50]
  have hl := hs.1
  refine loopH_intro (α := Nat) (fun i => ([(2, .int .i64 0), (3, .int .i64 (lsz (ls.take i))), (6, .sl 1 (ls.map .str)), (7, .int .i64 ls.length), (8, .int .i64 i)], [])) (fun i => i ≤ ls.length) (fun i => ls.length - i) 0 ?_ ?_ ?_
  · simp
  · simp (maxSteps := 4000000) only [Pg.look, true_and, and_true, alives, closeQ_nil, diagQ_zero, subA, subQ, ptrsE, frzO, subF, subG, pickOf, frzE, frzC, frz0, frzH, Pg.freeze, List.foldl_nil, subOs, subEv, subV_succ, subM, reduceCtorEq, Nat.reduceEqDiff, List.append_nil, ite_true, ite_false, and_self, pickOK_nil, Int.cast_ofNat_Int, List.take_zero]
    all_goals simp [lsz]
  · intro i hi
    simp (maxSteps := 4000000) only [↓wpA_H, ↓wpH_skip, ↓wpH_ret, ↓wpH_exit, ↓wpH_seq, ↓wpH_cond, ↓wpH_block, ↓wpH_region, iselH_if, bselH_false, runH_nil, runH_cons, gw, gselH_plain, cselH_bool, ↓chk, justK, noW, ↓oneK, ↓pureK, ↓heapK, ↓thenA_normal, ↓thenA_exit, ↓blockA_normal, ↓blockA_exit, ↓stepEv, opnd, Pg.look, binK, intOp, Bool.false_eq_true, implies_true, true_and, and_true, valV, heapV, footV, binV, intV, alives, closeQ_nil, diagQ_zero, ofV, ofLeaf, retA, resK, tupA, subA, subQ, ptrsE, frzO, subF, subG, pickOf, frzE, frzC, frz0, frzH, Pg.freeze, List.foldl_nil, subOs, subEv, subV_succ, subM, ldCells, AV.cells, TK.cells, List.getElem?_cons_zero, Option.getD_some, Nat.reduceEqDiff, List.append_nil, List.length_nil, ite_true, ite_false, Option.some.injEq, decide_eq_true_eq, decide_eq_false_iff_not, Int.not_lt, and_self, exists_eq_left', pickOK_nil, List.length_map, List.contains_nil, getD_str, Int.toNat_natCast, regH_none, isNext, nextF, nextG, selC_false, tk9, dz9, tk50]
    have h1 := lsz_fit hs i hi
    refine ⟨fun h => ⟨⟨by omega, by omega⟩, i + 1, by omega, by omega, ?_⟩, fun h => ?_⟩
    · have h2 := lsz_getD ls i
      have h3 := hs.2
      rw [lsz_take ls i (by omega), wrap64 (n := ((ls.getD i []).length : Int) + 1) (by omega) (by omega), wrap64 (by omega) (by omega), wrap64 (by omega) (by omega)]
      simp
    · have : i = ls.length := by omega
      subst this
      rw [List.take_length]
theorem ok_LSizeC : C1OK Try.prog 51 kLSize := C1OK.by (by kernel_rfl) (fun d h => calls_LSizeC d h) (fun _ => rfl) (fun _ => rfl)

set_option maxHeartbeats 4000000 in
theorem calls_RgSize (r : RgV) (hs : fitR r.2) : CallsR Try.prog 31 [aRg r] [] (.int .i64 (lsz r.2)) [] := by
  refine callsR_of (mrg := true) (dyn := []) (CtrOK.cons ok_LSizeC (CtrOK.nil _)) mixed Try.func31 rfl (by simp [Try.ntmps31]) (by kernel_rfl) ?_
  rw [show Try.f31.results.toList = [.tmp 2] from by kernel_rfl]
  simp (maxSteps := 4000000) only [↓wpA_H, ↓wpH_ret, ↓wpH_seq, ↓wpH_region, bselH_false, runH_nil, runH_cons, gw, gselH_plain, ↓chk, justK, noW, ↓oneK, ↓pureK, ↓heapK, envOf, ↓thenA_normal, ↓stepEv, opnd, Pg.look, Bool.false_eq_true, implies_true, true_and, and_true, valV, heapV, footV, alives, closeQ_nil, diagQ_zero, Nat.reduceAdd, ofV, ofLeaf, retA, resK, tupA, subA, subQ, ptrsE, frzO, subF, subG, pickOf, frzE, frzC, frz0, frzH, Pg.freeze, List.foldl_nil, subOs, subEv, subV_succ, subM, ldCells, objAt, ↓callT, callC, callV, callH, normArgs, normA, normC, resL, res8_eq, res_succ, resM, shiftR, shift1, AV.cells, TK.cells, AV.definite, List.getElem?_cons_succ, List.getElem?_cons_zero, Option.getD_some, reduceCtorEq, Nat.reduceEqDiff, Nat.reduceAdd, List.nil_append, List.append_nil, List.length_cons, List.length_nil, List.map_cons, List.map_nil, Nat.zero_add, ite_true, ite_false, Option.some.injEq, and_self, exists_eq_left', pickOK_nil, cSl_dec, lOne_dec, List.contains_nil, List.range'_zero, decL_str, C1by_ns, C1by_pre, C1by_r, C1by_H, optP_some, optV_some, optH_some, List.getD_cons_zero, Nat.zero_lt_succ, C1by_it, regH_none, isNext, nextF, nextG, selC_false, ↓msel, muC, ↓callP, C1by_mu, tk50, tk52, dz52, kLSize]
  exact hs
def kRgSize : C1 := C1.by [.ag [none, some 1]] (lOne cRgV) (fun d => fitR d.2) (fun d => .int .i64 (lsz d.2)) (fun _ => [])
theorem ok_RgSize : C1OK Try.prog 31 kRgSize := C1OK.by (by kernel_rfl) (fun d h => calls_RgSize d h) (fun _ => rfl) (fun _ => rfl)

set_option maxHeartbeats 4000000 in
theorem calls_HReg (a b : RgV) (ha : a.2.length ≤ 140737488355328) (hb : b.2.length ≤ 140737488355328) : CallsR Try.prog 29 [aRg a, aRg b] [] (.bool (a == b)) [] := by
  refine callsR_of (mrg := true) (dyn := []) (CtrOK.cons ok_Strings (CtrOK.nil _)) mixed Try.func29 rfl (by simp [Try.ntmps29]) (by kernel_rfl) ?_
  rw [show Try.f29.results.toList = [.tmp 4] from by kernel_rfl]
  simp (maxSteps := 4000000) only [↓wpA_H, ↓wpH_ret, ↓wpH_seq, ↓wpH_region, bselH_false, runH_nil, runH_cons, gw, gselH_plain, gselH_if, kselH_1, gkind, ↓chk, justK, noW, ↓oneK, ↓pureK, ↓heapK, envOf, ↓thenA_normal, ↓stepEv, opnd, Pg.look, binK, intOp, dstOf, Bool.false_eq_true, implies_true, imp_self, true_and, and_true, pickC, pickV, unc, gof, mux, mergeK, condsL, valV, heapV, footV, binV, intV, alives, closeQ_nil, diagQ_zero, Nat.reduceAdd, mergeable, look_stripE, ofV, ofLeaf, sameK, retA, resK, tupA, subA, subQ, ptrsE, frzO, subF, subG, pickOf, frzE, frzC, frz0, frzH, Pg.freeze, List.foldl_nil, subOs, subEv, subV_succ, subM, ldCells, objAt, ↓callT, callC, callV, normArgs, normA, normC, resL, res8_eq, res_succ, resM, shiftR, shift1, AV.cells, TK.cells, AV.definite, Op.operands, Call.operands, Array.toList_append, List.getElem?_toArray, List.getElem?_cons_succ, List.getElem?_cons_zero, Option.bind_some, Option.getD_some, reduceCtorEq, Nat.reduceEqDiff, Nat.reduceAdd, List.nil_append, List.append_nil, List.cons_append, List.length_cons, List.length_nil, List.map_cons, List.map_nil, Nat.zero_add, ite_true, ite_false, Option.some.injEq, Bool.if_false_right, Bool.decide_eq_true, Bool.and_self, and_self, exists_eq_left', pickOK_nil, List.toList_toArray, cSl_dec, lOne_dec, lCons_dec, dec2_some, List.contains_nil, List.range'_zero, decL_str, C1by_ns, C1by_pre, C1by_r, C1by_H, optP_some, optV_some, optH_some, List.getD_cons_zero, Nat.add_zero, Nat.zero_lt_succ, C1by_it, regH_none, isNext, nextF, nextG, selC_false, ↓msel, muC, ↓callP, C1by_mu, tk3, tk50, tk52, dz52, kStrings]
  refine ⟨fun h => ⟨h, ha, hb⟩, ?_⟩
  obtain ⟨a1, a2⟩ := a
  obtain ⟨b1, b2⟩ := b
  rfl
def kHReg : C1 := C1.by [.ag [none, some 1], .ag [none, some 1]] (lCons cRgV (lOne cRgV)) (fun d => d.1.2.length ≤ 140737488355328 ∧ d.2.2.length ≤ 140737488355328) (fun d => .bool (d.1 == d.2)) (fun _ => [])
theorem ok_HReg : C1OK Try.prog 29 kHReg := C1OK.by (by kernel_rfl) (fun d h => calls_HReg d.1 d.2 h.1 h.2) (fun _ => rfl) (fun _ => rfl)

theorem calls_SClone (ls : List (List UInt8)) (hb : ls.length ≤ 4398046511104) : CallsR Try.prog 64 [.sl 1 (ls.map .str)] [] (.own 0 1 ls.length) [.arr 9 1 (ls.map .str)] := by
  refine callsR_ofW Try.func64 rfl (by simp [Try.ntmps64]) fun E hr => ?_
  rw [show Try.f64.results.toList = [.tmp 2] from by kernel_rfl]
  refine AWp.seq (wpA_sound (C := []) (mrg := true) (dyn := []) (CtrOK.nil _) mixed _ _ E _ _ _ none false hr (fun ev H h => h) (by kernel_rfl) (.inl ⟨rfl, rfl⟩) ?_)
  simp (maxSteps := 4000000) only [↓wpA_H, ↓wpH_region, bselH_false, runH_nil, runH_cons, gw, gselH_plain, ↓chk, justK, ↓oneK, ↓pureK, envOf, ↓thenA_normal, ↓stepEv, opnd, Bool.false_eq_true, implies_true, true_and, valV, heapV, footV, ofV, ofLeaf, List.length_nil, ite_false, and_self, List.contains_nil, regH_none, isNext, nextF, nextG, selC_false]
  refine AWp.seq (AWp.seq (AWp.isNil (z := 1) (vs := ls.map .str) Try.underlying50 (by simp [Try.ntmps64]) (by simp [Try.ntmps64]) (by simp [Pg.look]) fun b hbn => ?_))
  refine wpA_sound (C := []) (mrg := true) (dyn := []) (CtrOK.nil _) mixed _ _ E _ _ _ none false hr (fun ev H h => h) (by kernel_rfl) (.inl ⟨rfl, rfl⟩) ?_
  simp (maxSteps := 4000000) only [↓wpA_H, ↓wpH_skip, ↓wpH_ret, ↓wpH_seq, ↓wpH_cond, ↓wpH_region, iselH_if, bselH_false, runH_nil, runH_cons, gw, gselH_plain, cselH_bool, ↓chk, justK, ↓oneK, ↓pureK, ↓thenA_normal, ↓thenA_ret, ↓stepEv, opnd, Pg.look, Bool.false_eq_true, implies_true, true_and, valV, heapV, footV, ofV, ofLeaf, reduceCtorEq, Nat.reduceEqDiff, List.length_nil, ite_true, ite_false, and_self, List.contains_nil, regH_none, isNext, nextF, nextG, selC_false]
  refine ⟨fun hb1 => retA_S _ _ _ ?_, fun hb1 => wpA_sound (C := []) (mrg := true) (dyn := []) (CtrOK.nil _) mixed _ _ E _ _ _ none false hr (fun ev H h => h) (by kernel_rfl) (.inl ⟨rfl, rfl⟩) (wpA_mono _ _ _ _ _ (fun e ev H h => retA_S e ev H h) ?_)⟩
  · have h0 : ls = [] := by simpa using hbn hb1
    subst h0
    simp (maxSteps := 4000000) only [Pg.look, alives, aliveO, closeQ_nil, diagQ_zero, retA, resK, tupA, subA, subQ, ptrsE, pairsO, frzO, subF, subG, pickOf, assocN, pairsE, pairsC, pairs0, frzE, frzC, frz0, frzH, Pg.freeze, List.foldl_nil, subOs, subO, subEv, subV_succ, subM, List.getElem?_cons_zero, reduceCtorEq, Nat.reduceEqDiff, List.append_nil, List.length_nil, List.map_nil, ite_true, ite_false, and_self, pickOK_one, Nat.lt_irrefl]
  · simp (maxSteps := 4000000) only [↓wpA_H, ↓wpH_ret, ↓wpH_seq, ↓wpH_region, bselH_false, runH_nil, runH_cons, gw, gselH_plain, ↓chk, justK, noW, ↓oneK, ↓pureK, ↓heapK, ↓thenA_normal, ↓stepEv, opnd, Pg.look, Bool.false_eq_true, implies_true, true_and, and_true, valV, heapV, footV, alives, aliveO, closeQ_nil, diagQ_zero, ofV, ofLeaf, retA, resK, tupA, subA, subQ, ptrsE, pairsO, frzO, subF, subG, pickOf, assocN, pairsE, pairsC, pairs0, frzE, frzC, frz0, frzH, Pg.freeze, List.foldl_nil, subOs, subO, subEv, subV_succ, subM, srcV, srcE, appK, AV.cells, AV.definite, List.getElem?_cons_zero, reduceCtorEq, Nat.reduceEqDiff, List.nil_append, List.append_nil, List.length_nil, List.map_nil, List.set_cons_zero, Nat.zero_add, ite_true, ite_false, Option.isSome_some, not_false_eq_true, List.all_nil, and_self, pickOK_one, List.length_map, not_mem_nil, List.range_zero, leafy_strs, List.contains_nil, Nat.reducePow, Nat.lt_irrefl, Nat.mul_one, Nat.zero_le, regH_none, isNext, nextF, nextG, selC_false, eb9, tk50]
    exact ⟨by omega, .inl ⟨rfl, pureB_strs ls⟩⟩
def kSClone : C1 := C1.by [.sl 1 []] (lOne cStrs) (fun d => d.length ≤ 4398046511104) (fun d => .own 0 1 d.length) (fun d => [.arr 9 1 (d.map .str)])
theorem ok_SClone : C1OK Try.prog 64 kSClone :=
  C1OK.by (by kernel_rfl) (fun d h => calls_SClone d h) (fun _ => rfl) (fun _ => by simp [okObj, AV.pureB, AV.cells, AV.pureLeaf])

set_option maxHeartbeats 4000000 in
theorem calls_RgClone (r : RgV) (hb : r.2.length ≤ 4398046511104) : CallsR Try.prog 54 [aRg r] [] (aRg r) [] := by
  refine callsR_of (mrg := true) (dyn := []) (CtrOK.cons ok_SClone (CtrOK.nil _)) mixed Try.func54 rfl (by simp [Try.ntmps54]) (by kernel_rfl) ?_
  rw [show Try.f54.results.toList = [.cell 2 52] from by kernel_rfl]
  simp (maxSteps := 4000000) only [↓wpA_H, ↓wpH_ret, ↓wpH_seq, ↓wpH_region, bselH_false, runH_nil, runH_cons, gw, gselH_plain, ↓chk, justK, noW, ↓oneK, ↓pureK, ↓heapK, envOf, ↓thenA_normal, ↓stepEv, opnd, Pg.look, Bool.false_eq_true, implies_true, true_and, and_true, valV, heapV, footV, alives, closeQ_nil, diagQ_zero, Nat.reduceAdd, ofV, ofLeaf, retA, resK, tupA, subA, subQ, ptrsE, frzO, subF, subG, pickOf, frzE, frzC, frzL, frz0, frzH, Pg.freeze, List.foldl_nil, List.foldl_cons, subOs, subEv, subV_succ, subM, subL, ldCells, objAt, ↓callT, callC, callV, callH, normArgs, normA, normC, resL, res8_eq, res_succ, resM, shiftR, shift1, AV.cells, TK.cells, AV.definite, AV.leaf, AV.leafy, putCells, lay, buildL, frzAt, List.getElem?_cons_succ, List.getElem?_cons_zero, Option.getD_some, reduceCtorEq, Nat.reduceEqDiff, Nat.reduceAdd, List.nil_append, List.append_nil, List.cons_append, List.length_cons, List.length_nil, List.map_cons, List.map_nil, List.set_cons_zero, List.set_cons_succ, Nat.zero_add, ite_true, ite_false, Option.some.injEq, Option.isSome_some, Option.isSome_none, AV.agg.injEq, List.all_cons, List.all_nil, Bool.and_self, and_self, exists_eq_left', pickOK_nil, List.length_map, cSl_dec, lOne_dec, pureB_strs, resIn, List.contains_cons, List.contains_nil, Bool.or_false, beq_self_eq_true, List.range'_zero, decL_str, C1by_ns, C1by_pre, C1by_r, C1by_H, optP_some, optV_some, optH_some, List.getD_cons_zero, cutL, List.drop_zero, List.drop_succ_cons, List.take_succ_cons, List.take_zero, Nat.add_zero, Nat.sub_zero, Nat.reduceLeDiff, Nat.le_refl, List.drop_nil, List.take_nil, Nat.zero_lt_succ, C1by_it, regH_none, isNext, nextF, nextG, selC_true, selC_false, pureC, ↓msel, muC, ↓callP, C1by_mu, mapAt, List.range'_succ, tk3, tk50, tk52, tz52, dz52, kSClone]
  exact hb
def kRgClone : C1 := C1.by [.ag [none, some 1]] (lOne cRgV) (fun d => d.2.length ≤ 4398046511104) (fun d => aRg d) (fun _ => [])
theorem ok_RgClone : C1OK Try.prog 54 kRgClone := C1OK.by (by kernel_rfl) (fun d h => calls_RgClone d h) (fun _ => rfl) (fun _ => rfl)
end Go.Pg
