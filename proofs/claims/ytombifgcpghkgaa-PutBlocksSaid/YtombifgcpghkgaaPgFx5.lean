/- Bytes and lines that are put. A block that is put. -/
import Derived.Test.YtombifgcpghkgaaPgFx4
import Derived.Test.YtombifgcpghkgaaPgFx3
namespace Go.Pg
open Go Go.Proofs

def kWrite' : C1 := C1.by [.sl 1 [], .id, .sl 1 []] (lCons cStrs (lCons cPos2 (lOne cStrs))) (fun d => small d.1 ∧ small d.2.2)
  (fun d => .tuple [aCh (write d.1 d.2.1.1 d.2.1.2 d.2.2).1, aPos (write d.1 d.2.1.1 d.2.1.2 d.2.2).2.1, .bool (write d.1 d.2.1.1 d.2.1.2 d.2.2).2.2]) (fun _ => [])
theorem ok_Write' : C1OK Try.prog 74 kWrite' := C1OK.by (by kernel_rfl) (fun d h => calls_Write d.1 d.2.2 d.2.1.1 d.2.1.2 h.1 h.2) (fun _ => rfl) (fun _ => rfl)

/-- Lines once more behind themselves: the last one and the first are one line. -/
def charsT (L : Ls) : Nat → Ls
  | 0 => L
  | m + 1 => (charsT L m).set ((charsT L m).length - 1) ((charsT L m).getD ((charsT L m).length - 1) [] ++ L.getD 0 []) ++ L.drop 1

theorem charsT_length (L : Ls) (h : 0 < L.length) (m : Nat) : (charsT L m).length = L.length + m * (L.length - 1) := by
  induction m with
  | zero => simp [charsT]
  | succ m ih =>
    simp only [charsT, List.length_append, List.length_set, List.length_drop, ih, Nat.succ_mul]
    omega
theorem charsT_bound (L : Ls) (B : Nat) (hB : ∀ i, (L.getD i []).length ≤ B) (m : Nat) : ∀ i, ((charsT L m).getD i []).length ≤ (m + 1) * B := by
  induction m with
  | zero => intro i; simpa [charsT] using hB i
  | succ m ih =>
    intro i
    rw [Nat.succ_mul]
    simp only [charsT]
    rw [List.getD_eq_getElem?_getD]
    by_cases hi : i < ((charsT L m).set ((charsT L m).length - 1) ((charsT L m).getD ((charsT L m).length - 1) [] ++ L.getD 0 [])).length
    · rw [List.getElem?_append_left hi, ← List.getD_eq_getElem?_getD, getD_setL]
      have h1 := ih i
      have h2 := ih ((charsT L m).length - 1)
      have h3 := hB 0
      split
      · rw [List.length_append]; omega
      · omega
    · rw [List.getElem?_append_right (by omega), List.getElem?_drop, ← List.getD_eq_getElem?_getD]
      have := hB (1 + (i - ((charsT L m).set ((charsT L m).length - 1) ((charsT L m).getD ((charsT L m).length - 1) [] ++ L.getD 0 [])).length))
      have h4 : B ≤ (m + 1 + 1) * B := Nat.le_mul_of_pos_left _ (by omega)
      rw [Nat.succ_mul] at h4
      omega

def charsR (ls : Ls) (p : Int × Int) (r : Reg) (n : Int) : Ch × (Int × Int) × Bool :=
  ((write ls p.1 p.2 (charsT r.2 (n - 1).toNat)).1, (if (charsT r.2 (n - 1).toNat).length = 1 then (p.1, p.2 + max ((((charsT r.2 (n - 1).toNat).getD 0 []).length : Int) - 1) 0) else p), (write ls p.1 p.2 (charsT r.2 (n - 1).toNat)).2.2)

set_option maxRecDepth 20000 in
set_option maxHeartbeats 4000000 in
theorem calls_chars (ls : Ls) (p : Int × Int) (r : Reg) (n : Int) (hs : small ls) (h1 : 1 ≤ n ∧ n ≤ 9999) (hr : 0 < r.2.length ∧ r.2.length ≤ 4096 ∧ ∀ i, (r.2.getD i []).length ≤ 4096) (hp : 0 ≤ p.2 ∧ p.2 ≤ 1099511627776) :
    CallsR Try.prog 57 [.sl 1 (ls.map .str), aPos p, aReg r, .int .i64 n] [] (.tuple [aCh (charsR ls p r n).1, aPos (charsR ls p r n).2.1, .bool (charsR ls p r n).2.2]) [] := by
  obtain ⟨k, L⟩ := r
  obtain ⟨p1, p2⟩ := p
  simp only at hr hp
  obtain ⟨r1, r2, r3⟩ := hr
  have hlen := charsT_length L r1
  have hbd := charsT_bound L 4096 r3
  have w1 : IntKind.i64.wrap (n - 1) = n - 1 := wrap64 (by omega) (by omega)
  refine callsR_of (mrg := true) (dyn := [10]) (CtrOK.cons ok_Clone (CtrOK.cons ok_Write' (CtrOK.nil _))) mixed Try.func57 rfl (by simp [Try.ntmps57]) (by kernel_rfl) ?_
  rw [show Try.f57.results.toList = [.cell 8 35, .cell 9 27, .tmp 10] from by kernel_rfl]
  simp (maxSteps := 4000000) only [↓wpA_H, ↓wpH_seq, ↓wpH_block, ↓wpH_loop, ↓wpH_region, bselH_false, runH_nil, runH_cons, gw, gselH_plain, ↓chk, justK, noW, ↓oneK, ↓pureK, ↓heapK, envOf, ↓thenA_normal, ↓stepEv, opnd, Pg.look, binK, intOp, Bool.false_eq_true, false_implies, implies_true, true_and, and_true, valV, heapV, footV, binV, intV, ofV, ofLeaf, Pg.freeze, List.foldl_nil, ldCells, objAt, ↓callT, callC, callV, callH, normArgs, normA, normC, resL, res8_eq, res_succ, resM, shiftR, shift1, AV.cells, TK.cells, AV.definite, List.getElem?_cons_succ, List.getElem?_cons_zero, Option.getD_some, reduceCtorEq, Nat.reduceEqDiff, Nat.reduceAdd, List.nil_append, List.append_nil, List.cons_append, List.length_cons, List.length_nil, List.map_cons, List.map_nil, Nat.zero_add, ite_true, ite_false, Option.some.injEq, Prod.mk.injEq, and_self, exists_eq_left', cSl_dec, lOne_dec, lCons_dec, List.contains_cons, List.contains_nil, Nat.reduceBEq, Bool.or_self, decL_str, C1by_ns, C1by_pre, C1by_r, C1by_H, optP_some, optV_some, optH_some, List.getD_cons_zero, Nat.add_zero, Nat.zero_lt_succ, tk22, tz27, tk32, dz32, tz35, kClone, kWrite', aReg, aPos, aCh, w1]
  refine ⟨by omega, ?_⟩
  have hmul : ∀ i : Nat, (i : Int) ≤ n - 1 → i * (L.length - 1) ≤ 9999 * 4096 ∧ (i + 1) * 4096 ≤ 9999 * 4096 := fun i hi => ⟨Nat.mul_le_mul (by omega) (by omega), Nat.mul_le_mul (by omega) (Nat.le_refl _)⟩
  refine loopH_intro (α := Nat) (fun i => ([(0, .sl 1 (ls.map .str)), (5, .ptr 0 2 1 0 0), (6, .ptr 1 2 1 0 0), (8, .ptr 2 3 1 0 0), (9, .ptr 3 2 1 0 0), (11, .own 4 1 (charsT L i).length), (19, .int .i64 (n - 1)), (20, .int .i64 i)], [.arr 27 2 [.agg [.int .i64 p1, .int .i64 p2]], .arr 32 2 [.agg [.int .i64 k, .sl 1 (L.map .str)]], .arr 35 3 [.agg [.int .i64 0, .nls, .nls]], .arr 27 2 [.agg [.int .i64 0, .int .i64 0]], .arr 9 1 ((charsT L i).map .str)]))
    (fun i => (i : Int) ≤ n - 1) (fun i => (n - 1).toNat - i) 0 (by omega) ?_ ?_
  · simp (maxSteps := 4000000) only [Pg.look, true_and, and_true, subA, subQ, ptrsE, pairsO, frzO, subF, subG, pickOf, assocN, pairsE, pairsC, pairsL, pairs0, frzE, frzC, frzL, frz0, frzH, Pg.freeze, List.foldl_nil, subOs, subO, subEv, subV_succ, subM, List.getElem?_cons_succ, List.getElem?_cons_zero, reduceCtorEq, Nat.reduceEqDiff, Nat.reduceAdd, List.nil_append, List.append_nil, List.cons_append, Nat.zero_add, ite_true, ite_false, and_self, Int.cast_ofNat_Int, Nat.lt_irrefl, Nat.not_lt_zero]
    exact ⟨rfl, ⟨subX_eq rfl rfl, subX_eq rfl rfl, subX_eq rfl rfl, subX_eq rfl rfl, subX_eq rfl (pureB_strs _)⟩, rfl⟩
  intro i hi
  obtain ⟨m1, m2⟩ := hmul i hi
  have l1 := hlen i
  have b1 := hbd i
  by_cases hlt : (i : Int) < n - 1
  · have hct : decide ((i : Int) < n - 1) = true := decide_eq_true hlt
    have w2 : IntKind.i64.wrap (((charsT L i).length : Int) - 1) = ((((charsT L i).length - 1 : Nat)) : Int) := by rw [wrap64 (by omega) (by omega)]; omega
    simp (maxSteps := 4000000) only [↓wpA_H, ↓wpH_skip, ↓wpH_seq, ↓wpH_cond, ↓wpH_block, ↓wpH_region, ↓iselH_true, bselH_false, runH_nil, runH_cons, gw, gselH_plain, cselH_bool, ↓chk, justK, noW, ↓oneK, ↓pureK, ↓heapK, ↓thenA_normal, ↓blockA_normal, ↓stepEv, opnd, Pg.look, binK, intOp, strOp, Bool.false_eq_true, implies_true, true_and, and_true, valV, heapV, footV, binV, intV, strV, cutV, ofV, ofLeaf, subA, subQ, ptrsE, pairsO, frzO, subF, subG, pickOf, assocN, pairsE, pairsC, pairsL, pairs0, frzE, frzC, frzL, frz0, frzH, Pg.freeze, List.foldl_nil, subOs, subO, subEv, subV_succ, subM, slen, srcV, srcE, appK, ldCells, objAt, sliceL, AV.cells, TK.cells, AV.leaf, AV.leafy, putCells, List.getElem?_cons_succ, List.getElem?_cons_zero, Option.map_some, Option.map_none, Option.getD_some, reduceCtorEq, Nat.reduceEqDiff, Nat.reduceAdd, List.nil_append, List.append_nil, List.cons_append, List.length_cons, List.length_nil, List.set_cons_zero, List.set_cons_succ, Nat.zero_add, Int.reduceToNat, ite_true, ite_false, Option.some.injEq, AV.int.injEq, not_false_eq_true, List.all_cons, List.all_nil, Bool.and_self, and_self, exists_eq_left', List.length_map, not_mem_nil, app_strs, Int.reduceLE, set_str, List.length_set, leafy_strs, List.contains_cons, List.contains_nil, Nat.reduceBEq, Bool.or_self, ← List.map_drop, getD_str, Int.toNat_natCast, List.getD_cons_zero, Nat.le_refl, Nat.lt_irrefl, Nat.not_lt_zero, Nat.zero_lt_succ, tk9, dz9, eb9, tk22, tk32, dz32, kClone, kWrite', aPos, aCh, hct, w2]
    have d1 : (L.drop 1).length = L.length - 1 := List.length_drop
    have b2 := b1 ((charsT L i).length - 1)
    have b3 := r3 0
    have l2 : (charsT L (i + 1)).length = (charsT L i).length + (L.length - 1) := by rw [hlen, hlen, Nat.succ_mul]; omega
    exact ⟨⟨by omega, by omega⟩, by omega, r1, by omega, ⟨by omega, by omega⟩, by omega, by omega, by omega, i + 1, by omega, by omega, rfl, ⟨subX_eq rfl rfl, subX_eq rfl rfl, subX_eq rfl rfl, subX_eq rfl rfl, subX_eq rfl (pureB_strs _)⟩, by omega, by rw [wrap64 (by omega) (by omega)]; rfl⟩
  · have hcf : decide ((i : Int) < n - 1) = false := decide_eq_false hlt
    simp (maxSteps := 4000000) only [↓wpA_H, ↓wpH_skip, ↓wpH_ret, ↓wpH_exit, ↓wpH_seq, ↓wpH_cond, ↓wpH_region, bselH_true, ↓iselH_false, iselH_if, bselH_false, runH_nil, runH_cons, gw, gselH_plain, cselH_bool, ↓chk, justK, noW, ↓oneK, ↓pureK, ↓heapK, ↓thenA_normal, ↓thenA_exit, ↓blockA_exit, ↓stepEv, opnd, Pg.look, binK, intOp, Bool.false_eq_true, false_implies, implies_true, true_and, and_true, forall_const, valV, heapV, footV, binV, intV, ofV, ofLeaf, retA, resK, tupA, subA, subQ, ptrsE, frzO, subF, subG, pickOf, frzE, frzC, frzL, frz0, frzH, Pg.freeze, List.foldl_nil, List.foldl_cons, subOs, subEv, subV_succ, subM, subL, slen, ldCells, objAt, ↓callT, callC, callV, callH, normArgs, normA, normC, resL, res8_eq, res_succ, resM, shiftR, shift1, AV.cells, TK.cells, AV.definite, AV.leaf, AV.leafy, putCells, lay, foldInts, frzAt, List.getElem?_cons_succ, List.getElem?_cons_zero, Option.getD_some, reduceCtorEq, Nat.reduceEqDiff, Nat.reduceAdd, List.nil_append, List.append_nil, List.cons_append, List.length_cons, List.length_nil, List.map_cons, List.map_nil, List.set_cons_zero, List.set_cons_succ, Nat.zero_add, Int.reduceToNat, ite_true, ite_false, Option.some.injEq, AV.int.injEq, Prod.mk.injEq, List.all_cons, List.all_nil, Bool.and_self, and_self, exists_eq_left', pickOK_nil, List.length_map, cInt_dec, Int.reduceLE, cSl_dec, cAgg_dec, lOne_dec, lCons_dec, dec2_some, pureB_strs, List.contains_cons, List.contains_nil, Nat.reduceBEq, Bool.or_self, Bool.or_false, beq_self_eq_true, List.range'_zero, decL_str, C1by_ns, C1by_pre, C1by_r, C1by_H, optP_some, optV_some, optH_some, getD_str, List.getD_cons_zero, cutL, List.drop_zero, List.drop_succ_cons, List.take_succ_cons, List.take_zero, Nat.sub_zero, Nat.le_refl, List.drop_nil, List.take_nil, Nat.zero_lt_succ, tk3, tk9, dz9, tk22, tk27, tz27, dz27, tk35, tz35, dz35, kClone, kWrite', aPos, aCh, hcf]
    have e1 : (n - 1).toNat = i := by omega
    have sm : small (charsT L i) := ⟨by omega, fun j => by have := b1 j; omega⟩
    have b2 := b1 0
    have w3 : IntKind.i64.wrap (((((charsT L i).getD 0 []).length : Nat) : Int) - 1) = ((((charsT L i).getD 0 []).length : Nat) : Int) - 1 := wrap64 (by omega) (by omega)
    refine ⟨⟨hs, sm⟩, fun h => ?_, fun h => ?_⟩
    · have h2 : (charsT L i).length = 1 := by rw [beq_iff_eq] at h; omega
      refine ⟨by omega, by omega, rfl, ⟨?_, ?_, ?_⟩, ⟨?_, ?_⟩, ?_⟩
      all_goals
        simp only [charsR, e1, h2, if_true]
      rw [w3, wrap64 (by omega) (by omega)]
    · have h2 : ¬ (charsT L i).length = 1 := by rw [beq_eq_false_iff_ne] at h; omega
      refine ⟨rfl, ⟨?_, ?_, ?_⟩, ⟨?_, ?_⟩, ?_⟩
      all_goals
        simp only [charsR, e1, if_neg h2]
def kChars : C1 := C1.by [.sl 1 [], .id, .ag [none, some 1], .id] (lCons cStrs (lCons cPos2 (lCons cReg (lOne (cInt .i64))))) (fun d => small d.1 ∧ (1 ≤ d.2.2.2 ∧ d.2.2.2 ≤ 9999) ∧ (0 < d.2.2.1.2.length ∧ d.2.2.1.2.length ≤ 4096 ∧ ∀ i, (d.2.2.1.2.getD i []).length ≤ 4096) ∧ (0 ≤ d.2.1.2 ∧ d.2.1.2 ≤ 1099511627776))
  (fun d => .tuple [aCh (charsR d.1 d.2.1 d.2.2.1 d.2.2.2).1, aPos (charsR d.1 d.2.1 d.2.2.1 d.2.2.2).2.1, .bool (charsR d.1 d.2.1 d.2.2.1 d.2.2.2).2.2]) (fun _ => [])
theorem ok_chars : C1OK Try.prog 57 kChars := C1OK.by (by kernel_rfl) (fun d h => calls_chars d.1 d.2.1 d.2.2.1 d.2.2.2 h.1 h.2.1 h.2.2.1 h.2.2.2) (fun _ => rfl) (fun _ => rfl)

/-- Lines, so often. -/
def repL (L : Ls) : Nat → Ls
  | 0 => []
  | m + 1 => repL L m ++ L
theorem repL_length (L : Ls) (m : Nat) : (repL L m).length = m * L.length := by
  induction m with
  | zero => simp [repL]
  | succ m ih => simp only [repL, List.length_append, ih, Nat.succ_mul]
theorem repL_first (L : Ls) (m : Nat) (h : 0 < L.length) (hm : 0 < m) : (repL L m).getD 0 [] = L.getD 0 [] := by
  induction m with
  | zero => omega
  | succ m ih =>
    simp only [repL]
    by_cases h0 : m = 0
    · subst h0; simp [repL]
    · have := ih (by omega)
      rw [List.getD_eq_getElem?_getD, List.getElem?_append_left (by rw [repL_length]; exact Nat.mul_pos (by omega) h), ← List.getD_eq_getElem?_getD, this]
theorem repL_mem (L : Ls) (m : Nat) : ∀ s ∈ repL L m, s ∈ L := by
  induction m with
  | zero => intro s h; simp [repL] at h
  | succ m ih =>
    intro s h
    simp only [repL, List.mem_append] at h
    rcases h with h | h
    · exact ih s h
    · exact h

def wholeR (at' : Int) (r : Reg) (n : Int) : Ch × (Int × Int) × Bool := ((at', [], repL r.2 n.toNat), (at', firstC (r.2.getD 0 [])), true)

set_option maxRecDepth 20000 in
set_option maxHeartbeats 4000000 in
theorem calls_whole (at' : Int) (r : Reg) (n : Int) (h1 : 1 ≤ n ∧ n ≤ 9999) (hr : 0 < r.2.length ∧ r.2.length ≤ 4096 ∧ ∀ i, (r.2.getD i []).length ≤ 4096) :
    CallsR Try.prog 58 [.int .i64 at', aReg r, .int .i64 n] [] (.tuple [aCh (wholeR at' r n).1, aPos (wholeR at' r n).2.1, .bool (wholeR at' r n).2.2]) [] := by
  obtain ⟨k, L⟩ := r
  simp only at hr
  obtain ⟨r1, r2, r3⟩ := hr
  have hmul : ∀ i : Nat, (i : Int) ≤ n → i * L.length ≤ 9999 * 4096 := fun i hi => Nat.mul_le_mul (by omega) (by omega)
  refine callsR_of (mrg := true) (dyn := []) (CtrOK.cons ok_First (CtrOK.nil _)) mixed Try.func58 rfl (by simp [Try.ntmps58]) (by kernel_rfl) ?_
  rw [show Try.f58.results.toList = [.cell 6 35, .cell 7 27, .tmp 8] from by kernel_rfl]
  simp (maxSteps := 4000000) only [↓wpA_H, ↓wpH_seq, ↓wpH_block, ↓wpH_loop, ↓wpH_region, bselH_false, runH_nil, runH_cons, gw, gselH_plain, ↓chk, justK, noW, ↓oneK, ↓pureK, ↓heapK, envOf, ↓thenA_normal, ↓stepEv, opnd, Pg.look, Bool.false_eq_true, implies_true, true_and, and_true, valV, heapV, footV, ofV, ofLeaf, AV.cells, TK.cells, AV.definite, AV.leaf, AV.leafy, putCells, lay, buildL, List.getElem?_cons_succ, List.getElem?_cons_zero, Option.getD_some, reduceCtorEq, Nat.reduceEqDiff, Nat.reduceAdd, List.nil_append, List.append_nil, List.cons_append, List.length_cons, List.length_nil, List.map_cons, List.map_nil, List.set_cons_zero, List.set_cons_succ, Nat.zero_add, ite_true, ite_false, Option.some.injEq, Option.isSome_some, AV.agg.injEq, List.all_cons, List.all_nil, Bool.and_self, and_self, exists_eq_left', List.contains_nil, List.getD_cons_zero, List.drop_zero, List.drop_succ_cons, List.take_zero, Nat.reduceLeDiff, Nat.le_refl, List.drop_nil, Nat.zero_lt_succ, tz27, tk35, tz35, dz35, kFirst, aReg]
  refine loopH_intro (α := Nat) (fun i => ([(0, .int .i64 at'), (4, .ptr 0 2 1 0 0), (6, .ptr 1 3 1 0 0), (7, .ptr 2 2 1 0 0), (9, .ptr 3 3 1 0 0), (12, .int .i64 n), (13, .int .i64 i)], [.arr 32 2 [.agg [.int .i64 k, .sl 1 (L.map .str)]], .arr 35 3 [.agg [.int .i64 0, .nls, .nls]], .arr 27 2 [.agg [.int .i64 0, .int .i64 0]], .arr 35 3 [.agg [.int .i64 at', .nls, .own 4 1 (repL L i).length]], .arr 9 1 ((repL L i).map .str)]))
    (fun i => (i : Int) ≤ n) (fun i => n.toNat - i) 0 (by omega) ?_ ?_
  · simp (maxSteps := 4000000) only [Pg.look, true_and, and_true, subA, subQ, ptrsE, pairsO, frzO, subF, subG, pickOf, assocN, pairsE, pairsC, pairsL, pairs0, frzE, frzC, frzL, frz0, frzH, Pg.freeze, List.foldl_nil, subOs, subO, subEv, subV_succ, subM, List.getElem?_cons_succ, List.getElem?_cons_zero, reduceCtorEq, Nat.reduceEqDiff, Nat.reduceAdd, List.nil_append, List.append_nil, List.cons_append, Nat.zero_add, ite_true, ite_false, and_self, Int.cast_ofNat_Int, Nat.lt_irrefl, Nat.not_lt_zero]
    exact ⟨rfl, subX_eq rfl rfl, subX_eq rfl rfl, subX_eq rfl rfl, subX_cells (by simp [subL, subC, subV, AV.cells, repL]), rfl⟩
  intro i hi
  have m1 := hmul i hi
  have l1 := repL_length L i
  by_cases hlt : (i : Int) < n
  · have hct : decide ((i : Int) < n) = true := decide_eq_true hlt
    simp (maxSteps := 4000000) only [↓wpA_H, ↓wpH_skip, ↓wpH_seq, ↓wpH_cond, ↓wpH_block, ↓wpH_region, ↓iselH_true, bselH_false, runH_nil, runH_cons, gw, gselH_plain, cselH_bool, ↓chk, justK, noW, ↓oneK, ↓pureK, ↓heapK, ↓thenA_normal, ↓blockA_normal, ↓stepEv, opnd, Pg.look, binK, intOp, Bool.false_eq_true, implies_true, true_and, and_true, valV, heapV, footV, binV, intV, ofV, ofLeaf, subA, subQ, ptrsE, pairsO, frzO, subF, subG, pickOf, assocN, pairsE, pairsC, pairsL, pairs0, frzE, frzC, frzL, frz0, frzH, Pg.freeze, List.foldl_nil, subOs, subO, subEv, subV_succ, subM, srcV, srcE, appK, ldCells, objAt, AV.cells, TK.cells, AV.leaf, AV.leafy, putCells, lay, List.getElem?_cons_succ, List.getElem?_cons_zero, Option.getD_some, reduceCtorEq, Nat.reduceEqDiff, Nat.reduceAdd, List.nil_append, List.append_nil, List.cons_append, List.length_cons, List.length_nil, List.set_cons_zero, List.set_cons_succ, Nat.zero_add, ite_true, ite_false, Option.some.injEq, not_false_eq_true, List.all_cons, List.all_nil, Bool.and_self, and_self, exists_eq_left', List.length_map, not_mem_nil, app_strs, leafy_strs, List.contains_nil, List.getD_cons_zero, List.drop_succ_cons, List.take_succ_cons, List.take_zero, Nat.le_refl, Nat.lt_irrefl, List.drop_nil, Nat.not_lt_zero, Nat.zero_lt_succ, eb9, tk22, tk32, dz32, tk35, dz35, kFirst, hct]
    exact ⟨by omega, i + 1, by omega, by omega, rfl, ⟨subX_eq rfl rfl, subX_eq rfl rfl, subX_eq rfl rfl, subX_cells (by simp [subL, subC, subV, AV.cells, repL]), subX_eq rfl (pureB_strs _)⟩, by rw [wrap64 (by omega) (by omega)]; rfl⟩
  · have hcf : decide ((i : Int) < n) = false := decide_eq_false hlt
    simp (maxSteps := 4000000) only [↓wpA_H, ↓wpH_ret, ↓wpH_exit, ↓wpH_seq, ↓wpH_cond, ↓wpH_region, ↓iselH_false, bselH_false, runH_nil, runH_cons, gw, gselH_plain, cselH_bool, ↓chk, justK, noW, ↓oneK, ↓pureK, ↓heapK, ↓thenA_normal, ↓thenA_exit, ↓blockA_exit, ↓stepEv, opnd, Pg.look, binK, intOp, Bool.false_eq_true, implies_true, true_and, and_true, valV, heapV, footV, binV, intV, ofV, ofLeaf, retA, resK, tupA, subA, subQ, ptrsE, frzO, subF, subG, pickOf, frzE, frzC, frzL, frz0, frzH, Pg.freeze, List.foldl_nil, List.foldl_cons, subOs, subEv, subV_succ, subM, subL, ldCells, objAt, ↓callT, callC, callV, callH, normArgs, normA, resL, res8_eq, res_succ, resM, shiftR, shift1, AV.cells, TK.cells, AV.definite, AV.leaf, AV.leafy, putCells, lay, buildL, frzAt, List.getElem?_cons_succ, List.getElem?_cons_zero, Option.getD_some, reduceCtorEq, Nat.reduceEqDiff, Nat.reduceAdd, List.nil_append, List.append_nil, List.cons_append, List.length_cons, List.length_nil, List.map_cons, List.map_nil, List.set_cons_zero, List.set_cons_succ, Nat.zero_add, Int.reduceToNat, ite_true, ite_false, Option.some.injEq, Option.isSome_some, AV.sl.injEq, AV.agg.injEq, List.all_cons, List.all_nil, Bool.and_self, and_self, exists_eq_left', pickOK_nil, List.length_map, Int.reduceLE, cStr_dec, lOne_dec, pureB_strs, resIn, List.contains_cons, List.contains_nil, Bool.or_false, beq_self_eq_true, List.range'_zero, C1by_ns, C1by_pre, C1by_r, C1by_H, optP_some, optV_some, optH_some, getD_str, List.getD_cons_zero, cutL, List.drop_zero, List.drop_succ_cons, List.take_succ_cons, List.take_zero, Nat.sub_zero, Nat.reduceLeDiff, Nat.le_refl, List.drop_nil, List.take_nil, Nat.zero_lt_succ, tk9, dz9, tk22, tk27, tz27, dz27, tk35, dz35, kFirst, aPos, aCh, hcf]
    have e1 : n.toNat = i := by omega
    have h0 : 0 < (repL L i).length := by rw [l1]; exact Nat.mul_pos (by omega) r1
    have hf := repL_first L i r1 (by omega)
    have := r3 0
    have e2 : wholeR at' (k, L) n = ((at', [], repL L i), (at', firstC (L.getD 0 [])), true) := by
      unfold wholeR
      simp only [e1]
    rw [e2]
    exact ⟨by omega, h0, by rw [hf]; omega, ⟨rfl, rfl, rfl⟩, ⟨rfl, by rw [hf]⟩, rfl⟩
def kWhole : C1 := C1.by [.id, .ag [none, some 1], .id] (lCons (cInt .i64) (lCons cReg (lOne (cInt .i64)))) (fun d => (1 ≤ d.2.2 ∧ d.2.2 ≤ 9999) ∧ (0 < d.2.1.2.length ∧ d.2.1.2.length ≤ 4096 ∧ ∀ i, (d.2.1.2.getD i []).length ≤ 4096))
  (fun d => .tuple [aCh (wholeR d.1 d.2.1 d.2.2).1, aPos (wholeR d.1 d.2.1 d.2.2).2.1, .bool (wholeR d.1 d.2.1 d.2.2).2.2]) (fun _ => [])
theorem ok_whole : C1OK Try.prog 58 kWhole := C1OK.by (by kernel_rfl) (fun d h => calls_whole d.1 d.2.1 d.2.2 h.1 h.2) (fun _ => rfl) (fun _ => rfl)
end Go.Pg
namespace Go.Pg
open Go Go.Proofs

def widest : Ls → Int
  | [] => 0
  | s :: r => max (widest r) s.length
def widestN (L : Ls) (i : Nat) : Int := (L.take i).foldl (fun (w : Int) (s : List UInt8) => max w s.length) 0
theorem widestN_succ (L : Ls) (i : Nat) (h : i < L.length) : widestN L (i + 1) = max (widestN L i) (L.getD i []).length := by
  unfold widestN
  rw [take_succ_getD L i [] h, List.foldl_append]; rfl
theorem widestN_bound (L : Ls) (B : Nat) (hB : ∀ i, (L.getD i []).length ≤ B) (i : Nat) (hi : i ≤ L.length) : 0 ≤ widestN L i ∧ widestN L i ≤ B := by
  induction i with
  | zero => simp [widestN]
  | succ i ih =>
    have := ih (by omega)
    have h1 := hB i
    rw [widestN_succ L i (by omega)]
    omega

/-- A line that a block's line is put into. -/
def blockLine (ls : Ls) (p : Int × Int) (L : Ls) (n : Int) (k : Nat) : List UInt8 :=
  let was := wide (if p.1 + k < min (p.1 + L.length) ls.length then ls.getD (p.1 + k).toNat [] else []) p.2
  was.take p.2.toNat ++ Lib.repeatL (wide (L.getD k []) (widestN L L.length)) (n - 1).toNat ++ L.getD k [] ++ was.drop p.2.toNat
def blockL (ls : Ls) (p : Int × Int) (L : Ls) (n : Int) (k : Nat) : Ls := (List.range k).map (blockLine ls p L n)
def blockR (ls : Ls) (p : Int × Int) (r : Reg) (n : Int) : Ch × (Int × Int) × Bool :=
  ((p.1, cutL ls p.1.toNat (min (p.1 + r.2.length) ls.length).toNat, blockL ls p r.2 n r.2.length), p, true)

set_option maxRecDepth 20000 in
set_option maxHeartbeats 4000000 in
theorem calls_block (ls : Ls) (p : Int × Int) (r : Reg) (n : Int) (hs : small ls) (h1 : 1 ≤ n ∧ n ≤ 9999) (hr : 0 < r.2.length ∧ r.2.length ≤ 4096 ∧ ∀ i, (r.2.getD i []).length ≤ 4096) (hp : 0 ≤ p.1 ∧ p.1 ≤ ls.length ∧ 0 ≤ p.2 ∧ p.2 ≤ 1099511627776) :
    CallsR Try.prog 59 [.sl 1 (ls.map .str), aPos p, aReg r, .int .i64 n] [] (.tuple [aCh (blockR ls p r n).1, aPos (blockR ls p r n).2.1, .bool (blockR ls p r n).2.2]) [] := by
  obtain ⟨k, L⟩ := r
  obtain ⟨p1, p2⟩ := p
  simp only at hr hp
  obtain ⟨r1, r2, r3⟩ := hr
  obtain ⟨hp1, hp2, hp3, hp4⟩ := hp
  have hl := hs.1
  have hw := widestN_bound L 4096 r3
  have w1 : IntKind.i64.wrap (n - 1) = n - 1 := wrap64 (by omega) (by omega)
  have w2 : IntKind.i64.wrap (p1 + (L.length : Int)) = p1 + L.length := wrap64 (by omega) (by omega)
  refine callsR_of (mrg := true) (dyn := [18]) (CtrOK.cons ok_Clone (CtrOK.cons ok_wide (CtrOK.cons ok_RepeatG (CtrOK.nil _)))) mixed Try.func59 rfl (by simp [Try.ntmps59]) (by kernel_rfl) ?_
  rw [show Try.f59.results.toList = [.cell 8 35, .cell 9 27, .tmp 10] from by kernel_rfl]
  simp (maxSteps := 4000000) only [↓wpA_H, ↓wpH_seq, ↓wpH_block, ↓wpH_loop, ↓wpH_region, bselH_false, runH_nil, runH_cons, gw, gselH_plain, ↓chk, justK, noW, ↓oneK, ↓pureK, ↓heapK, envOf, ↓thenA_normal, ↓stepEv, opnd, Pg.look, Bool.false_eq_true, implies_true, true_and, and_true, valV, heapV, footV, ofV, ofLeaf, slen, ldCells, objAt, AV.cells, TK.cells, AV.definite, List.getElem?_cons_succ, List.getElem?_cons_zero, Option.getD_some, reduceCtorEq, Nat.reduceEqDiff, Nat.reduceAdd, List.nil_append, List.cons_append, List.length_cons, List.length_nil, Nat.zero_add, ite_true, ite_false, Option.some.injEq, AV.int.injEq, and_self, exists_eq_left', List.length_map, List.contains_cons, List.contains_nil, Nat.reduceBEq, Bool.or_self, List.getD_cons_zero, Nat.zero_lt_succ, tk22, tz27, tk32, dz32, tz35, kClone, kWide, kRepeatG, aReg, aPos]
  refine loopH_intro (α := Nat) (fun i => ([(0, .sl 1 (ls.map .str)), (3, .int .i64 n), (5, .ptr 0 2 1 0 0), (6, .ptr 1 2 1 0 0), (8, .ptr 2 3 1 0 0), (9, .ptr 3 2 1 0 0), (11, .int .i64 (widestN L i)), (20, .sl 1 (L.map .str)), (21, .int .i64 L.length), (22, .int .i64 i)], [.arr 27 2 [.agg [.int .i64 p1, .int .i64 p2]], .arr 32 2 [.agg [.int .i64 k, .sl 1 (L.map .str)]], .arr 35 3 [.agg [.int .i64 0, .nls, .nls]], .arr 27 2 [.agg [.int .i64 0, .int .i64 0]]]))
    (fun i => i ≤ L.length) (fun i => L.length - i) 0 (by omega) ?_ ?_
  · simp (maxSteps := 4000000) only [Pg.look, true_and, and_true, subA, subQ, ptrsE, pairsO, frzO, subF, subG, pickOf, assocN, pairsE, pairsC, pairsL, pairs0, frzE, frzC, frzL, frz0, frzH, Pg.freeze, List.foldl_nil, subOs, subO, subEv, subV_succ, subM, List.getElem?_cons_succ, List.getElem?_cons_zero, reduceCtorEq, Nat.reduceEqDiff, Nat.reduceAdd, List.nil_append, List.append_nil, List.cons_append, Nat.zero_add, ite_true, ite_false, and_self, Int.cast_ofNat_Int, Nat.lt_irrefl, Nat.not_lt_zero]
    exact ⟨rfl, ⟨subX_eq rfl rfl, subX_eq rfl rfl, subX_eq rfl rfl, subX_eq rfl rfl⟩, rfl⟩
  intro i hi
  by_cases hlt : i < L.length
  · have hct : decide ((i : Int) < (L.length : Int)) = true := decide_eq_true (by omega)
    simp (maxSteps := 4000000) only [↓wpA_H, ↓wpH_skip, ↓wpH_seq, ↓wpH_cond, ↓wpH_block, ↓wpH_region, ↓iselH_true, bselH_false, runH_nil, runH_cons, gw, gselH_plain, cselH_bool, ↓chk, justK, noW, ↓oneK, ↓pureK, ↓heapK, ↓thenA_normal, ↓blockA_normal, ↓stepEv, opnd, Pg.look, binK, intOp, Bool.false_eq_true, implies_true, true_and, and_true, valV, heapV, footV, binV, intV, ofV, ofLeaf, subA, subQ, ptrsE, pairsO, frzO, subF, subG, pickOf, assocN, pairsE, pairsC, pairsL, pairs0, frzE, frzC, frzL, frz0, frzH, Pg.freeze, List.foldl_nil, subOs, subO, subEv, subV_succ, subM, ldCells, AV.cells, TK.cells, foldInts, List.getElem?_cons_succ, List.getElem?_cons_zero, Option.getD_some, reduceCtorEq, Nat.reduceEqDiff, Nat.reduceAdd, List.nil_append, List.append_nil, List.cons_append, List.map_cons, List.map_nil, Nat.zero_add, ite_true, ite_false, Option.some.injEq, AV.int.injEq, and_self, exists_eq_left', List.length_map, List.contains_cons, List.contains_nil, Nat.reduceBEq, Bool.or_self, getD_str, Int.toNat_natCast, Nat.lt_irrefl, Nat.not_lt_zero, tk9, dz9, tk22, kClone, kWide, kRepeatG, hct]
    exact ⟨⟨by omega, hlt⟩, i + 1, by omega, by omega, rfl, ⟨subX_eq rfl rfl, subX_eq rfl rfl, subX_eq rfl rfl, subX_eq rfl rfl⟩, by rw [widestN_succ L i hlt], by rw [wrap64 (by omega) (by omega)]; rfl⟩
  have hcf : decide ((i : Int) < (L.length : Int)) = false := decide_eq_false (by omega)
  have hiL : i = L.length := by omega
  subst hiL
  simp (maxSteps := 4000000) only [↓wpA_H, ↓wpH_exit, ↓wpH_seq, ↓wpH_cond, ↓wpH_block, ↓wpH_loop, ↓wpH_region, ↓iselH_false, bselH_false, runH_nil, runH_cons, gw, gselH_plain, cselH_bool, ↓chk, justK, noW, ↓oneK, ↓pureK, ↓heapK, ↓thenA_normal, ↓thenA_exit, ↓blockA_exit, ↓stepEv, opnd, Pg.look, binK, intOp, Bool.false_eq_true, false_implies, implies_true, true_and, and_true, valV, heapV, footV, binV, intV, cutV, ofV, ofLeaf, retA, Pg.freeze, List.foldl_nil, slen, ldCells, objAt, sliceL, ↓callT, callC, callV, callH, normArgs, normA, normC, resL, res8_eq, res_succ, resM, shiftR, shift1, AV.cells, TK.cells, AV.definite, AV.leaf, AV.leafy, putCells, lay, buildL, foldInts, List.getElem?_cons_succ, List.getElem?_cons_zero, Option.map_some, Option.map_none, Option.getD_some, reduceCtorEq, Nat.reduceEqDiff, Nat.reduceAdd, List.nil_append, List.append_nil, List.cons_append, List.length_cons, List.length_nil, List.map_cons, List.map_nil, List.set_cons_zero, List.set_cons_succ, Nat.zero_add, ite_true, ite_false, Option.some.injEq, Option.isSome_some, AV.int.injEq, AV.agg.injEq, Prod.mk.injEq, List.all_cons, List.all_nil, Bool.and_self, and_self, exists_eq_left', List.length_map, cSl_dec, lOne_dec, lCons_dec, List.contains_cons, List.contains_nil, Nat.reduceBEq, Bool.or_self, decL_str, C1by_ns, C1by_pre, C1by_r, C1by_H, optP_some, optV_some, optH_some, ← List.map_drop, ← List.map_take, List.getD_cons_zero, cutL, List.drop_zero, List.drop_succ_cons, List.take_succ_cons, List.take_zero, Nat.add_zero, Nat.reduceLeDiff, Nat.le_refl, List.drop_nil, Nat.zero_lt_succ, tk3, tk22, tk27, dz27, tk32, dz32, tk35, tz35, dz35, kClone, kWide, kRepeatG, hcf, w2]
  have hen : p1 ≤ min (p1 + (L.length : Int)) ls.length ∧ min (p1 + (L.length : Int)) ls.length ≤ ls.length := by omega
  have hfin : blockR ls (p1, p2) (k, L) n = ((p1, cutL ls p1.toNat (min (p1 + (L.length : Int)) ls.length).toNat, blockL ls (p1, p2) L n L.length), (p1, p2), true) := rfl
  have hbl : ∀ j, blockLine ls (p1, p2) L n j = (wide (if p1 + (j : Int) < min (p1 + (L.length : Int)) ls.length then ls.getD (p1 + (j : Int)).toNat [] else []) p2).take p2.toNat ++ Lib.repeatL (wide (L.getD j []) (widestN L L.length)) (n - 1).toNat ++ L.getD j [] ++ (wide (if p1 + (j : Int) < min (p1 + (L.length : Int)) ls.length then ls.getD (p1 + (j : Int)).toNat [] else []) p2).drop p2.toNat := fun j => rfl
  rw [hfin]
  obtain ⟨en, een⟩ : ∃ en, min (p1 + (L.length : Int)) ls.length = en := ⟨_, rfl⟩
  rw [een] at hen hbl ⊢
  have ecut : (ls.drop p1.toNat).take (en.toNat - p1.toNat) = cutL ls p1.toNat en.toNat := rfl
  rw [ecut]
  have hO : (cutL ls p1.toNat en.toNat).length ≤ ls.length := by unfold cutL; rw [List.length_take, List.length_drop]; omega
  obtain ⟨O, eO⟩ : ∃ O, cutL ls p1.toNat en.toNat = O := ⟨_, rfl⟩
  rw [eO] at hO ⊢
  refine ⟨⟨hp1, hen.1, hen.2⟩, by omega, ?_⟩
  refine loopH_intro (α := Nat) (fun i => ([(0, .sl 1 (ls.map .str)), (3, .int .i64 n), (5, .ptr 0 2 1 0 0), (6, .ptr 1 2 1 0 0), (8, .ptr 2 3 1 0 0), (9, .ptr 3 2 1 0 0), (11, .int .i64 (widestN L L.length)), (14, .int .i64 en), (15, .ptr 5 3 1 0 0), (50, .sl 1 (L.map .str)), (51, .int .i64 L.length), (52, .int .i64 i)], [.arr 27 2 [.agg [.int .i64 p1, .int .i64 p2]], .arr 32 2 [.agg [.int .i64 k, .sl 1 (L.map .str)]], .arr 35 3 [.agg [.int .i64 0, .nls, .nls]], .arr 27 2 [.agg [.int .i64 0, .int .i64 0]], .arr 9 1 (O.map .str), .arr 35 3 [.agg [.int .i64 p1, .own 4 1 O.length, .own 6 1 i]], .arr 9 1 ((blockL ls (p1, p2) L n i).map .str)]))
    (fun i => i ≤ L.length) (fun i => L.length - i) 0 (by omega) ?_ ?_
  · simp (maxSteps := 4000000) only [Pg.look, true_and, and_true, subA, subQ, ptrsE, pairsO, frzO, subF, subG, pickOf, assocN, pairsE, pairsC, pairsL, pairs0, frzE, frzC, frzL, frz0, frzH, Pg.freeze, List.foldl_nil, subOs, subO, subEv, subV_succ, subM, List.getElem?_cons_succ, List.getElem?_cons_zero, reduceCtorEq, Nat.reduceEqDiff, Nat.reduceAdd, List.nil_append, List.append_nil, List.cons_append, Nat.zero_add, ite_true, ite_false, and_self, Int.cast_ofNat_Int, Nat.lt_irrefl, Nat.not_lt_zero]
    exact ⟨rfl, subX_eq rfl rfl, subX_eq rfl rfl, subX_eq rfl rfl, subX_eq rfl rfl, subX_eq rfl (pureB_strs _), subX_cells (by simp [subL, subC, subV, AV.cells]), rfl⟩
  intro i hi
  by_cases hlt : i < L.length
  · have hct : decide ((i : Int) < (L.length : Int)) = true := decide_eq_true (by omega)
    have w3 : IntKind.i64.wrap (p1 + (i : Int)) = p1 + i := wrap64 (by omega) (by omega)
    have hbi := hbl i
    have hrl : (blockL ls (p1, p2) L n i).length = i := by unfold blockL; rw [List.length_map, List.length_range]
    by_cases hA : p1 + (i : Int) < en
    · have hA2 : decide (p1 + (i : Int) < en) = true := decide_eq_true hA
      rw [if_pos hA] at hbi
      simp (maxSteps := 4000000) only [↓wpA_H, ↓wpH_skip, ↓wpH_seq, ↓wpH_cond, ↓wpH_block, ↓wpH_region, ↓iselH_true, bselH_false, runH_nil, runH_cons, gw, gselH_plain, cselH_bool, ↓chk, justK, noW, ↓oneK, ↓pureK, ↓heapK, ↓thenA_normal, ↓blockA_normal, ↓stepEv, opnd, Pg.look, binK, intOp, strOp, Bool.false_eq_true, false_implies, implies_true, true_and, and_true, valV, heapV, footV, binV, intV, strV, cutV, ofV, ofLeaf, subA, subQ, ptrsE, pairsO, frzO, subF, subG, pickOf, assocN, pairsE, pairsC, pairsL, pairs0, frzE, frzC, frzL, frz0, frzH, Pg.freeze, List.foldl_nil, subOs, subO, subEv, subV_succ, subM, srcV, srcE, appK, ldCells, objAt, sliceS, ↓callT, callC, callV, callH, normArgs, normA, normC, resL, res8_eq, res_succ, resM, shiftR, shift1, AV.cells, TK.cells, AV.definite, AV.leaf, AV.leafy, putCells, lay, List.getElem?_cons_succ, List.getElem?_cons_zero, Option.map_some, Option.map_none, Option.getD_some, reduceCtorEq, Nat.reduceEqDiff, Nat.reduceAdd, List.nil_append, List.append_nil, List.cons_append, List.length_cons, List.length_nil, List.map_cons, List.map_nil, List.set_cons_zero, List.set_cons_succ, Nat.zero_add, ite_true, ite_false, Option.some.injEq, Option.isSome_some, AV.str.injEq, Prod.mk.injEq, List.all_cons, List.all_nil, Bool.and_self, and_self, exists_eq_left', List.length_map, cInt_dec, List.length_append, rg1, cStr_dec, lOne_dec, lCons_dec, dec2_some, app1_str, List.contains_cons, List.contains_nil, Nat.reduceBEq, Bool.or_self, beq_self_eq_true, List.range'_zero, Nat.reducePow, C1by_ns, C1by_pre, C1by_r, C1by_H, optP_some, optV_some, optH_some, getD_str, Int.toNat_natCast, List.getD_cons_zero, List.drop_succ_cons, List.take_succ_cons, List.take_zero, Nat.add_zero, Nat.reduceLeDiff, Nat.le_refl, Nat.lt_irrefl, Nat.mul_one, List.drop_nil, Nat.not_lt_zero, Nat.zero_lt_succ, tk3, tk9, dz9, eb9, tk22, tk27, dz27, tk35, dz35, kClone, kWide, kRepeatG, hct, w1, w3, hA2, hrl]
      generalize hS : (ls.getD (p1 + (i : Int)).toNat []) = S at hbi
      have wl := wide_length S p2
      have wl2 := wide_length (L.getD i []) (widestN L L.length)
      have hSl : S.length ≤ 1099511627776 := by rw [← hS]; exact hs.2 _
      have hr3 := r3 i
      obtain ⟨hw1, hw2⟩ := hw L.length (Nat.le_refl _)
      have rp := Lib.repeatL_length (wide (L.getD i []) (widestN L L.length)) (n - 1).toNat
      have mb : (wide (L.getD i []) (widestN L L.length)).length * (n - 1).toNat ≤ 4096 * 9999 := Nat.mul_le_mul (by omega) (by omega)
      rw [Nat.mul_comm] at rp
      have hnx : blockL ls (p1, p2) L n (i + 1) = blockL ls (p1, p2) L n i ++ [blockLine ls (p1, p2) L n i] := by
        unfold blockL
        rw [List.range_succ, List.map_append]; rfl
      have k1 : ((wide S p2).take p2.toNat).length ≤ 1099511627776 + 1099511627776 := by rw [List.length_take]; omega
      have k2 : ((wide S p2).drop p2.toNat).length ≤ 1099511627776 + 1099511627776 := by rw [List.length_drop]; omega
      refine ⟨⟨by omega, hlt⟩, ⟨by omega, by omega⟩, ⟨by omega, by omega, by omega⟩, ⟨by omega, by omega⟩, ⟨by omega, by omega, by omega⟩, ⟨by omega, by omega, by omega⟩, by omega, by omega, ⟨by omega, by omega⟩, by omega, ⟨by decide, by omega⟩, i + 1, by omega, by omega, rfl, ⟨subX_eq rfl rfl, subX_eq rfl rfl, subX_eq rfl rfl, subX_eq rfl rfl, subX_eq rfl (pureB_strs _), subX_cells (by simp [subL, subC, subV, AV.cells]), subX_eq (by rw [hnx, hbi]) (pureB_strs _)⟩, by rw [wrap64 (by omega) (by omega)]; rfl⟩
    · have hA2 : decide (p1 + (i : Int) < en) = false := decide_eq_false hA
      rw [if_neg hA] at hbi
      simp (maxSteps := 4000000) only [↓wpA_H, ↓wpH_skip, ↓wpH_seq, ↓wpH_cond, ↓wpH_block, ↓wpH_region, ↓iselH_true, ↓iselH_false, bselH_false, runH_nil, runH_cons, gw, gselH_plain, cselH_bool, ↓chk, justK, noW, ↓oneK, ↓pureK, ↓heapK, ↓thenA_normal, ↓blockA_normal, ↓stepEv, opnd, Pg.look, binK, intOp, strOp, Bool.false_eq_true, false_implies, implies_true, true_and, and_true, valV, heapV, footV, binV, intV, strV, cutV, ofV, ofLeaf, subA, subQ, ptrsE, pairsO, frzO, subF, subG, pickOf, assocN, pairsE, pairsC, pairsL, pairs0, frzE, frzC, frzL, frz0, frzH, Pg.freeze, List.foldl_nil, subOs, subO, subEv, subV_succ, subM, srcV, srcE, appK, ldCells, objAt, sliceS, ↓callT, callC, callV, callH, normArgs, normA, normC, resL, res8_eq, res_succ, resM, shiftR, shift1, AV.cells, TK.cells, AV.definite, AV.leaf, AV.leafy, putCells, lay, List.getElem?_cons_succ, List.getElem?_cons_zero, Option.map_some, Option.map_none, Option.getD_some, reduceCtorEq, Nat.reduceEqDiff, Nat.reduceAdd, List.nil_append, List.append_nil, List.cons_append, List.length_cons, List.length_nil, List.map_cons, List.map_nil, List.set_cons_zero, List.set_cons_succ, Nat.zero_add, ite_true, ite_false, Option.some.injEq, Option.isSome_some, AV.str.injEq, Prod.mk.injEq, List.all_cons, List.all_nil, Bool.and_self, and_self, exists_eq_left', List.length_map, cInt_dec, List.length_append, rg1, cStr_dec, lOne_dec, lCons_dec, dec2_some, app1_str, List.contains_cons, List.contains_nil, Nat.reduceBEq, Bool.or_self, beq_self_eq_true, Int.cast_ofNat_Int, List.range'_zero, Nat.reducePow, C1by_ns, C1by_pre, C1by_r, C1by_H, optP_some, optV_some, optH_some, getD_str, Int.toNat_natCast, List.getD_cons_zero, List.drop_succ_cons, List.take_succ_cons, List.take_zero, Nat.add_zero, Nat.reduceLeDiff, Nat.le_refl, Nat.lt_irrefl, Nat.zero_mul, Nat.mul_one, List.drop_nil, Nat.not_lt_zero, Nat.zero_lt_succ, Nat.zero_le, tk3, tk9, dz9, eb9, tk22, tk27, dz27, tk35, dz35, kClone, kWide, kRepeatG, hct, w1, w3, hA2, hrl]
      have wl : (wide ([] : List UInt8) p2).length = max 0 p2.toNat := wide_length [] p2
      generalize hS : wide ([] : List UInt8) p2 = W at hbi wl ⊢
      have wl2 := wide_length (L.getD i []) (widestN L L.length)
      have hr3 := r3 i
      obtain ⟨hw1, hw2⟩ := hw L.length (Nat.le_refl _)
      have rp := Lib.repeatL_length (wide (L.getD i []) (widestN L L.length)) (n - 1).toNat
      have mb : (wide (L.getD i []) (widestN L L.length)).length * (n - 1).toNat ≤ 4096 * 9999 := Nat.mul_le_mul (by omega) (by omega)
      rw [Nat.mul_comm] at rp
      have hnx : blockL ls (p1, p2) L n (i + 1) = blockL ls (p1, p2) L n i ++ [blockLine ls (p1, p2) L n i] := by
        unfold blockL
        rw [List.range_succ, List.map_append]; rfl
      have k1 : ((W).take p2.toNat).length ≤ 1099511627776 + 1099511627776 := by rw [List.length_take]; omega
      have k2 : ((W).drop p2.toNat).length ≤ 1099511627776 + 1099511627776 := by rw [List.length_drop]; omega
      refine ⟨⟨by omega, hlt⟩, ⟨by omega, by omega⟩, ⟨by omega, by omega⟩, ⟨by omega, by omega, by omega⟩, ⟨by omega, by omega, by omega⟩, by omega, by omega, ⟨by omega, by omega⟩, by omega, ⟨by decide, by omega⟩, i + 1, by omega, by omega, rfl, ⟨subX_eq rfl rfl, subX_eq rfl rfl, subX_eq rfl rfl, subX_eq rfl rfl, subX_eq rfl (pureB_strs _), subX_cells (by simp [subL, subC, subV, AV.cells]), subX_eq (by rw [hnx, hbi]) (pureB_strs _)⟩, by rw [wrap64 (by omega) (by omega)]; rfl⟩
  have hcf : decide ((i : Int) < (L.length : Int)) = false := decide_eq_false (by omega)
  have hiL : i = L.length := by omega
  subst hiL
  have hrl : (blockL ls (p1, p2) L n L.length).length = L.length := by unfold blockL; rw [List.length_map, List.length_range]
  simp (maxSteps := 4000000) only [↓wpA_H, ↓wpH_ret, ↓wpH_exit, ↓wpH_seq, ↓wpH_cond, ↓wpH_region, bselH_true, ↓iselH_false, bselH_false, runH_nil, runH_cons, gw, gselH_plain, cselH_bool, ↓chk, justK, noW, ↓oneK, ↓pureK, ↓heapK, ↓thenA_normal, ↓thenA_exit, ↓blockA_exit, ↓stepEv, opnd, Pg.look, binK, intOp, Bool.false_eq_true, implies_true, true_and, and_true, forall_const, valV, heapV, footV, binV, intV, ofV, ofLeaf, retA, resK, tupA, subA, subQ, ptrsE, frzO, subF, subG, pickOf, frzE, frzC, frzL, frz0, frzH, Pg.freeze, List.foldl_nil, List.foldl_cons, subOs, subEv, subV_succ, subM, subL, ldCells, objAt, res_succ, resM, AV.cells, TK.cells, AV.leaf, AV.leafy, putCells, lay, frzAt, List.getElem?_cons_succ, List.getElem?_cons_zero, Option.getD_some, reduceCtorEq, Nat.reduceEqDiff, Nat.reduceAdd, List.nil_append, List.append_nil, List.cons_append, List.length_cons, List.length_nil, List.set_cons_zero, List.set_cons_succ, Nat.zero_add, ite_true, ite_false, Option.some.injEq, List.all_cons, List.all_nil, Bool.and_self, and_self, exists_eq_left', pickOK_nil, List.length_map, pureB_strs, resIn, List.contains_cons, List.contains_nil, Nat.reduceBEq, Bool.or_self, Bool.or_false, beq_self_eq_true, Bool.or_true, List.getD_cons_zero, cutL, List.drop_zero, List.drop_succ_cons, List.take_succ_cons, List.take_zero, Nat.sub_zero, Nat.le_refl, List.drop_nil, List.take_nil, Nat.zero_lt_succ, tk27, dz27, tk35, dz35, kClone, kWide, kRepeatG, aPos, aCh, hcf, hrl]
  rfl
def kBlock : C1 := C1.by [.sl 1 [], .id, .ag [none, some 1], .id] (lCons cStrs (lCons cPos2 (lCons cReg (lOne (cInt .i64))))) (fun d => small d.1 ∧ (1 ≤ d.2.2.2 ∧ d.2.2.2 ≤ 9999) ∧ (0 < d.2.2.1.2.length ∧ d.2.2.1.2.length ≤ 4096 ∧ ∀ i, (d.2.2.1.2.getD i []).length ≤ 4096) ∧ (0 ≤ d.2.1.1 ∧ d.2.1.1 ≤ d.1.length ∧ 0 ≤ d.2.1.2 ∧ d.2.1.2 ≤ 1099511627776))
  (fun d => .tuple [aCh (blockR d.1 d.2.1 d.2.2.1 d.2.2.2).1, aPos (blockR d.1 d.2.1 d.2.2.1 d.2.2.2).2.1, .bool (blockR d.1 d.2.1 d.2.2.1 d.2.2.2).2.2]) (fun _ => [])
theorem ok_block : C1OK Try.prog 59 kBlock := C1OK.by (by kernel_rfl) (fun d h => calls_block d.1 d.2.1 d.2.2.1 d.2.2.2 h.1 h.2.1 h.2.2.1 h.2.2.2) (fun _ => rfl) (fun _ => rfl)
end Go.Pg
