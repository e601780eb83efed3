/- Where words begin and end: the program's iterator. Where words begin and end: the iterators that the program hands out. What is heard of an iterator of places. Motions by words, by the program: small parts. -/
import Derived.Test.YtnnhelhadcfbcaaPgFx1
import Derived.Test.YtnnhelhadcfbcaaPgYld4
namespace Go.Pg
open Go Go.Proofs

/-! ### Plain: which mark is the next one -/
def lineLead (e : Bool) (s : List UInt8) : Nat := if (e && s == []) = true then 1 else 0
theorem lineMarks_len (e : Bool) (g : List UInt8 → Nat → Bool) (l : Nat) (s : List UInt8) : (lineMarks e g l s).length = lineLead e s + (marksIn g l s s.length).length := by
  unfold lineMarks lineLead
  split <;> simp [Nat.add_comm]

theorem marksTo_get (e : Bool) (g : List UInt8 → Nat → Bool) (ls : Ls) (i : Nat) : ∀ (n : Nat), i < n → ∀ (j : Nat) (p : Int × Int), (lineMarks e g i (ls.getD i []))[j]? = some p → (marksTo e g ls n)[(marksTo e g ls i).length + j]? = some p := by
  intro n
  induction n with
  | zero => intro h; omega
  | succ n ih =>
    intro h j p hp
    rw [marksTo_succ]
    by_cases he : i = n
    · subst he
      rw [List.getElem?_append_right (by omega), show (marksTo e g ls i).length + j - (marksTo e g ls i).length = j by omega]
      exact hp
    · have h1 := ih (by omega) j p hp
      rw [List.getElem?_append_left (List.getElem?_eq_some_iff.1 h1).1]
      exact h1

theorem marksIn_get (g : List UInt8 → Nat → Bool) (l : Nat) (s : List UInt8) (k : Nat) (hg : g s k = true) : ∀ (n : Nat), k < n → (marksIn g l s n)[(marksIn g l s k).length]? = some ((l : Int), (k : Int)) := by
  intro n
  induction n with
  | zero => intro h; omega
  | succ n ih =>
    intro h
    rw [marksIn_succ]
    by_cases he : k = n
    · subst he
      rw [if_pos hg, List.getElem?_append_right (by omega), Nat.sub_self]
      rfl
    · have h1 := ih (by omega)
      split
      · rw [List.getElem?_append_left (List.getElem?_eq_some_iff.1 h1).1]; exact h1
      · exact h1

theorem mark_lead (e : Bool) (g : List UInt8 → Nat → Bool) (ls : Ls) (i : Nat) (hi : i < ls.length) (h : (e && ls.getD i [] == []) = true) : (marksTo e g ls ls.length)[(marksTo e g ls i).length]? = some ((i : Int), 0) := by
  refine marksTo_get e g ls i ls.length hi 0 _ ?_
  unfold lineMarks
  rw [if_pos h]
  rfl

theorem mark_in (e : Bool) (g : List UInt8 → Nat → Bool) (ls : Ls) (i k : Nat) (hi : i < ls.length) (hk : k < (ls.getD i []).length) (h : g (ls.getD i []) k = true) :
    (marksTo e g ls ls.length)[(marksTo e g ls i).length + lineLead e (ls.getD i []) + (marksIn g i (ls.getD i []) k).length]? = some ((i : Int), (k : Int)) := by
  rw [Nat.add_assoc]
  refine marksTo_get e g ls i ls.length hi _ _ ?_
  have h1 := marksIn_get g i (ls.getD i []) k h (ls.getD i []).length hk
  unfold lineMarks lineLead
  split
  · rw [List.getElem?_append_right (by simp), show 1 + (marksIn g i (ls.getD i []) k).length - [((i : Int), (0 : Int))].length = (marksIn g i (ls.getD i []) k).length by simp]
    exact h1
  · rw [List.nil_append, Nat.zero_add]
    exact h1

/-! ### What is asked of a byte -/
abbrev lAsk : CdL (List UInt8 × Int × Bool) := lCons cStr (lCons (cInt .i64) (lOne (cRp (lOne cBool))))
def kAsk (g : Bool → List UInt8 → Nat → Bool) : C1 := C1.by [.id, .id, .id] lAsk (fun d => 0 ≤ d.2.1 ∧ d.2.1 < d.1.length ∧ d.1.length ≤ 140737488355328) (fun d => .bool (g d.2.2 d.1 d.2.1.toNat)) (fun _ => [])

set_option maxHeartbeats 4000000 in
theorem calls_askS (s : List UInt8) (i : Int) (big : Bool) (h0 : 0 ≤ i) (h1 : i < s.length) (h2 : s.length ≤ 140737488355328) : CallsR Try.prog 29 [.str s, .int .i64 i, .rp [.bool big]] [] (.bool (startB big s i.toNat)) [] := by
  refine callsR_of (mrg := true) (dyn := []) (CtrOK.cons ok_Of (CtrOK.nil _)) mixed Try.func29 rfl (by simp [Try.ntmps29]) (by kernel_rfl) ?_
  rw [show Try.f29.results.toList = [.tmp 5] from by kernel_rfl]
  obtain ⟨k, rfl⟩ := Int.eq_ofNat_of_zero_le h0
  have hk1 : (IntKind.i64.wrap ((k : Int) - 1)) = (k : Int) - 1 := wrap64 (by omega) (by omega)
  have hk2 : ((k : Int) - 1).toNat = k - 1 := by omega
  simp (maxSteps := 4000000) only [↓wpA_H, ↓wpH_ret, ↓wpH_seq, ↓wpH_region, bselH_false, runH_nil, runH_cons, gw, gselH_plain, gselH_if, kselH_0, kselH_1, gkind, ↓chk, pickO, justK, noW, ↓oneK, ↓pureK, ↓heapK, envOf, ↓thenA_normal, ↓stepEv, opnd, Pg.look, binK, intOp, dstOf, Bool.false_eq_true, implies_true, imp_self, true_and, and_true, pickC, pickV, unc, gof, mux, mergeK, condsL, valV, heapV, footV, binV, intV, mergeable, look_stripE, ofV, ofLeaf, sameK, retA, resK, tupA, subA, subQ, ptrsE, frzO, subF, subG, pickOf, frzE, frzC, frz0, frzH, Pg.freeze, List.foldl_nil, subOs, subEv, subV_succ, subM, ldCells, ↓callT, callC, callV, callH, normArgs, normA, resL, res8_eq, res_succ, resM, shiftR, shift1, TK.cells, Op.operands, Call.operands, Array.toList_append, List.getElem?_toArray, List.getElem?_cons_succ, List.getElem?_cons_zero, Option.bind_some, Option.getD_some, reduceCtorEq, Nat.reduceEqDiff, Nat.reduceAdd, List.nil_append, List.append_nil, List.cons_append, List.length_nil, List.map_cons, List.map_nil, Nat.zero_add, ite_true, ite_false, Option.some.injEq, Bool.if_false_right, Bool.if_true_left, Bool.decide_eq_true, Bool.and_self, and_self, exists_eq_left', pickOK_nil, cInt_dec, cBool_dec, List.toList_toArray, lOne_dec, lCons_dec, dec2_some, List.contains_nil, List.range'_zero, C1by_ns, C1by_pre, C1by_r, C1by_H, optP_some, optV_some, optH_some, Int.toNat_natCast, C1by_it, tk4, tk9, kOf, hk1, hk2]
  refine ⟨⟨by omega, by omega⟩, fun h => ⟨h, ?_⟩, fun h => ⟨h, fun h2 => by rw [h, h2]; rfl⟩, rfl⟩
  have h' := h
  simp only [Bool.and_eq_true, Bool.not_eq_true', beq_eq_false_iff_ne, ne_eq] at h'
  exact ⟨by omega, by omega⟩

set_option maxHeartbeats 4000000 in
theorem calls_askE (s : List UInt8) (i : Int) (big : Bool) (h0 : 0 ≤ i) (h1 : i < s.length) (h2 : s.length ≤ 140737488355328) : CallsR Try.prog 31 [.str s, .int .i64 i, .rp [.bool big]] [] (.bool (endB big s i.toNat)) [] := by
  refine callsR_of (mrg := true) (dyn := []) (CtrOK.cons ok_Of (CtrOK.nil _)) mixed Try.func31 rfl (by simp [Try.ntmps31]) (by kernel_rfl) ?_
  rw [show Try.f31.results.toList = [.tmp 5] from by kernel_rfl]
  obtain ⟨k, rfl⟩ := Int.eq_ofNat_of_zero_le h0
  have hk3 : (IntKind.i64.wrap ((k : Int) + 1)) = ((k + 1 : Nat) : Int) := by rw [wrap64 (by omega) (by omega)]; omega
  have hk4 : IntKind.i64.wrap ((s.length : Int) - 1) = (s.length : Int) - 1 := wrap64 (by omega) (by omega)
  simp (maxSteps := 4000000) only [↓wpA_H, ↓wpH_ret, ↓wpH_seq, ↓wpH_region, bselH_false, runH_nil, runH_cons, gw, gselH_plain, gselH_if, kselH_0, kselH_1, gkind, ↓chk, pickO, justK, noW, ↓oneK, ↓pureK, ↓heapK, envOf, ↓thenA_normal, ↓stepEv, opnd, Pg.look, binK, intOp, dstOf, Bool.false_eq_true, implies_true, imp_self, true_and, and_true, pickC, pickV, unc, gof, mux, mergeK, condsL, valV, heapV, footV, binV, intV, mergeable, look_stripE, ofV, ofLeaf, sameK, retA, resK, tupA, subA, subQ, ptrsE, frzO, subF, subG, pickOf, frzE, frzC, frz0, frzH, Pg.freeze, List.foldl_nil, subOs, subEv, subV_succ, subM, ldCells, ↓callT, callC, callV, callH, normArgs, normA, resL, res8_eq, res_succ, resM, shiftR, shift1, TK.cells, Op.operands, Call.operands, Array.toList_append, List.getElem?_toArray, List.getElem?_cons_succ, List.getElem?_cons_zero, Option.bind_some, Option.getD_some, reduceCtorEq, Nat.reduceEqDiff, Nat.reduceAdd, List.nil_append, List.append_nil, List.cons_append, List.length_nil, List.map_cons, List.map_nil, Nat.zero_add, ite_true, ite_false, Option.some.injEq, Bool.if_false_right, Bool.if_true_left, Bool.decide_eq_true, Bool.and_self, and_self, exists_eq_left', pickOK_nil, cInt_dec, cBool_dec, List.toList_toArray, lOne_dec, lCons_dec, dec2_some, List.contains_nil, List.range'_zero, C1by_ns, C1by_pre, C1by_r, C1by_H, optP_some, optV_some, optH_some, Int.toNat_natCast, C1by_it, tk4, tk9, kOf, hk3, hk4]
  refine ⟨⟨by omega, by omega⟩, fun h => ⟨h, ?_⟩, fun h => ⟨h, fun h2 => by rw [h, h2]; rfl⟩, rfl⟩
  have h' := h
  simp only [Bool.and_eq_true, Bool.not_eq_true', beq_eq_false_iff_ne, ne_eq] at h'
  exact ⟨by omega, by omega⟩

set_option maxRecDepth 20000 in
set_option maxHeartbeats 4000000 in
theorem it_at (ls : Ls) (e : Bool) (fid : Nat) (big : Bool) (g : Bool → List UInt8 → Nat → Bool) (hf : fits 65536 65536 ls) (hk : C1OK Try.prog fid (kAsk g)) :
    ItR Try.prog 44 [.rp [.sl 1 (ls.map .str)], .rp [.bool e], .rp [.fn fid [.rp [.bool big]]]] ((marksTo e (g big) ls ls.length).map fun p => [aPos p]) := by
  refine itR_of (mrg := true) (dyn := []) (CtrOK.cons hk (CtrOK.nil _)) mixed Try.func44 rfl (by simp [Try.ntmps44]) (by kernel_rfl) (by kernel_rfl) ?_ ?_
  · intro x hx
    obtain ⟨p, _, rfl⟩ := List.mem_map.1 hx
    rfl
  intro l
  have hll := hf.1
  have hls := fits_getD hf
  simp (maxSteps := 4000000) only [↓wpY_H, ↓wpYH_seq, ↓wpYH_block, ↓wpYH_loop, ↓wpYH_region0, runYH_nil, runYH_cons, ↓oneYH_eq, yarg, yselH_none, ↓thenY_normal, gw, gselH_plain, ↓chk, justK, noW, ↓oneK, ↓pureK, ↓heapK, envOf, ↓stepEv, opnd, Pg.look, Bool.false_eq_true, implies_true, true_and, and_true, valV, heapV, footV, ofV, ofLeaf, slen, ldCells, TK.cells, List.getElem?_cons_zero, Option.getD_some, reduceCtorEq, Nat.reduceEqDiff, Nat.reduceAdd, Nat.zero_add, ite_true, ite_false, Option.some.injEq, AV.int.injEq, and_self, exists_eq_left', List.length_map, tk22, kAsk]
  refine loopYH_intro (α := Nat) (fun i => (some (marksTo e (g big) ls i).length, [(0, .yld l), (1, .rp [.sl 1 (ls.map .str)]), (2, .rp [.bool e]), (3, .rp [.fn fid [.rp [.bool big]]]), (8, .sl 1 (ls.map .str)), (9, .int .i64 ls.length), (10, .int .i64 i)], []))
    (fun i => i ≤ ls.length) (fun i => ls.length - i) 0 (by omega) (by simp [marksTo]) ?_ ?_
  · simp (maxSteps := 4000000) only [Pg.look, subA, subQ, ptrsE, frzO, subF, subG, pickOf, frzE, frzC, frz0, frzH, Pg.freeze, List.foldl_nil, subOs, subEv, subV_succ, subM, reduceCtorEq, Nat.reduceEqDiff, List.append_nil, ite_true, ite_false, and_self, pickOK_nil, Int.cast_ofNat_Int]
    all_goals rfl
  intro i hi
  by_cases hlt : i < ls.length
  · have hct : decide ((i : Int) < (ls.length : Int)) = true := decide_eq_true (by omega)
    have hsl := hls i
    have hts := marksTo_succ e (g big) ls i
    have hln := lineMarks_len e (g big) i (ls.getD i [])
    cases e with
    | false =>
      have hl : lineLead false (ls.getD i []) = 0 := rfl
      simp (maxSteps := 4000000) only [↓wpY_H, ↓wpYH_skip, ↓wpYH_seq, ↓wpYH_cond, ↓wpYH_block, ↓wpYH_loop, ↓wpYH_region0, runYH_nil, runYH_cons, ↓oneYH_eq, yarg, yselH_none, ↓thenY_normal, ↓iselH_true, ↓iselH_false, ↓fixG, setG, gw, gselH_plain, gselH_if, cselH_bool, ↓chk, justK, noW, ↓oneK, ↓pureK, ↓heapK, ↓stepEv, opnd, Pg.look, binK, intOp, dstOf, Bool.not_false, Bool.not_true, Bool.false_eq_true, implies_true, true_and, and_true, pickC, pickV, unc, gof, mux, valV, heapV, footV, binV, intV, ofV, ofLeaf, ldCells, AV.cells, TK.cells, List.getElem?_toArray, List.getElem?_cons_succ, List.getElem?_cons_zero, Option.bind_some, Option.getD_some, reduceCtorEq, Nat.reduceEqDiff, ite_true, ite_false, Option.some.injEq, and_self, exists_eq_left', List.length_map, getD_str, Int.toNat_natCast, tk4, tk9, dz9, tk22, kAsk, hct]
      refine ⟨by omega, ?_⟩
      refine loopYH_intro (α := Nat) (fun k => (some ((marksTo false (g big) ls i).length + lineLead false (ls.getD i []) + (marksIn (g big) i (ls.getD i []) k).length), [(0, .yld l), (1, .rp [.sl 1 (ls.map .str)]), (2, .rp [.bool false]), (3, .rp [.fn fid [.rp [.bool big]]]), (5, .int .i64 i), (6, .str (ls.getD i [])), (8, .sl 1 (ls.map .str)), (9, .int .i64 ls.length), (10, .int .i64 i), (28, .int .i64 (ls.getD i []).length), (29, .int .i64 k)], []))
        (fun k => k ≤ (ls.getD i []).length) (fun k => (ls.getD i []).length - k) 0 (by omega) (by rw [hl]; simp [marksIn]) ?_ ?_
      · simp (maxSteps := 4000000) only [Pg.look, subA, subQ, ptrsE, frzO, subF, subG, pickOf, frzE, frzC, frz0, frzH, Pg.freeze, List.foldl_nil, subOs, subEv, subV_succ, subM, reduceCtorEq, Nat.reduceEqDiff, List.append_nil, ite_true, ite_false, and_self, pickOK_nil, Int.cast_ofNat_Int]
        all_goals rfl
      intro k hk1
      have hm1 := marksIn_succ (g big) i (ls.getD i []) k
      by_cases hk2 : k < (ls.getD i []).length
      · have hct2 : decide ((k : Int) < ((ls.getD i []).length : Int)) = true := decide_eq_true (by omega)
        cases hg : g big (ls.getD i []) k with
        | true =>
          rw [if_pos hg] at hm1
          have hy := mark_in false (g big) ls i k hlt hk2 hg
          simp (maxSteps := 4000000) only [↓wpY_H, ↓wpYH_skip, ↓wpYH_ret, ↓wpYH_seq, ↓wpYH_cond, ↓wpYH_block, ↓wpYH_region0, runYH_nil, runYH_cons, ↓oneYH_eq, yarg, yselH_none, yselH_some, yieldH_some, ↓thenY_normal, ↓thenY_ret, ↓blockY_normal, ↓blockY_ret, ↓endY_ret, endT_none, ↓iselH_true, ↓iselH_false, ↓fixG, setG, gw, gselH_plain, gselH_if, cselH_bool, ↓chk, justK, noW, ↓oneK, ↓pureK, ↓heapK, ↓stepEv, opnd, Pg.look, binK, intOp, dstOf, Bool.and_true, Bool.not_false, Bool.not_true, Bool.false_eq_true, Bool.true_eq_false, implies_true, true_and, and_true, pickC, pickV, unc, gof, mux, valV, heapV, footV, binV, intV, ofV, ofLeaf, subA, subQ, ptrsE, frzO, subF, subG, pickOf, frzE, frzC, frz0, frzH, Pg.freeze, List.foldl_nil, subOs, subEv, subV_succ, subM, ldCells, ↓callT, callC, callV, callH, normArgs, normA, resL, res8_eq, res_succ, resM, shiftR, shift1, AV.cells, TK.cells, AV.definite, lay, buildL, List.getElem?_toArray, List.getElem?_cons_succ, List.getElem?_cons_zero, Option.bind_some, Option.map_some, Option.getD_some, reduceCtorEq, Nat.reduceEqDiff, Nat.reduceAdd, List.nil_append, List.append_nil, List.cons_append, List.length_cons, List.length_nil, List.map_cons, List.map_nil, Nat.zero_add, ite_true, ite_false, Option.some.injEq, Option.isSome_some, AV.agg.injEq, List.all_cons, List.all_nil, Bool.and_self, and_self, exists_eq_left', pickOK_nil, List.length_map, cInt_dec, cBool_dec, cStr_dec, cRp_dec, lOne_dec, lCons_dec, dec2_some, List.range'_zero, C1by_ns, C1by_pre, C1by_r, C1by_H, optP_some, optV_some, optH_some, Int.toNat_natCast, List.drop_zero, List.drop_succ_cons, List.take_succ_cons, List.take_zero, Nat.reduceLeDiff, Nat.le_refl, List.drop_nil, C1by_it, tk36, tz36, tk51, kAsk, eq_self, hct2, hg, Int.toNat_natCast, List.getElem?_map, hy]
          exact ⟨⟨by omega, by omega, by omega⟩, rfl, rfl, k + 1, by omega, by omega, by rw [hm1, List.length_append]; rfl, by rw [wrap64 (by omega) (by omega)]; rfl⟩
        | false =>
          rw [if_neg (by rw [hg]; simp)] at hm1
          simp (maxSteps := 4000000) only [↓wpY_H, ↓wpYH_skip, ↓wpYH_seq, ↓wpYH_cond, ↓wpYH_block, ↓wpYH_region0, runYH_nil, runYH_cons, ↓oneYH_eq, yarg, yselH_none, ↓thenY_normal, ↓blockY_normal, ↓iselH_true, ↓iselH_false, ↓fixG, setG, gw, gselH_plain, gselH_if, cselH_bool, ↓chk, justK, noW, ↓oneK, ↓pureK, ↓heapK, ↓stepEv, opnd, Pg.look, binK, intOp, dstOf, Bool.not_false, Bool.not_true, Bool.false_eq_true, implies_true, true_and, and_true, pickC, pickV, unc, gof, mux, valV, heapV, footV, binV, intV, ofV, ofLeaf, subA, subQ, ptrsE, frzO, subF, subG, pickOf, frzE, frzC, frz0, frzH, Pg.freeze, List.foldl_nil, subOs, subEv, subV_succ, subM, ldCells, ↓callT, callC, callV, callH, normArgs, normA, resL, res8_eq, res_succ, resM, shiftR, shift1, TK.cells, List.getElem?_toArray, List.getElem?_cons_succ, List.getElem?_cons_zero, Option.bind_some, Option.getD_some, reduceCtorEq, Nat.reduceEqDiff, List.nil_append, List.append_nil, List.cons_append, List.length_nil, List.map_cons, List.map_nil, ite_true, ite_false, Option.some.injEq, and_self, exists_eq_left', pickOK_nil, cInt_dec, cBool_dec, cStr_dec, cRp_dec, lOne_dec, lCons_dec, dec2_some, List.range'_zero, C1by_ns, C1by_pre, C1by_r, C1by_H, optP_some, optV_some, optH_some, Int.toNat_natCast, C1by_it, tk51, kAsk, eq_self, hct2, hg, Int.toNat_natCast]
          exact ⟨⟨by omega, by omega, by omega⟩, k + 1, by omega, by omega, by rw [hm1], by rw [wrap64 (by omega) (by omega)]; rfl⟩
      · have hcf2 : decide ((k : Int) < ((ls.getD i []).length : Int)) = false := decide_eq_false (by omega)
        have hke : k = (ls.getD i []).length := by omega
        subst hke
        simp (maxSteps := 4000000) only [↓wpY_H, ↓wpYH_exit, ↓wpYH_seq, ↓wpYH_cond, ↓wpYH_region0, runYH_nil, runYH_cons, ↓oneYH_eq, yarg, yselH_none, ↓thenY_normal, ↓thenY_exit, ↓blockY_normal, ↓blockY_exit, ↓endY_normal, endT_some, ↓iselH_false, gw, gselH_plain, cselH_bool, ↓chk, justK, ↓oneK, ↓pureK, ↓stepEv, opnd, Pg.look, binK, intOp, Bool.false_eq_true, implies_true, true_and, and_true, valV, heapV, footV, binV, intV, ofV, ofLeaf, subA, subQ, ptrsE, frzO, subF, subG, pickOf, frzE, frzC, frz0, frzH, Pg.freeze, List.foldl_nil, subOs, subEv, subV_succ, subM, reduceCtorEq, Nat.reduceEqDiff, List.append_nil, ite_true, ite_false, Option.some.injEq, and_self, pickOK_nil, List.length_map, kAsk, hcf2]
        exact ⟨i + 1, by omega, by omega, by rw [hts, List.length_append, hln]; omega, by rw [wrap64 (by omega) (by omega)]; rfl⟩
    | true =>
      cases hse : (ls.getD i [] == []) with
      | true =>
        have hl : lineLead true (ls.getD i []) = 1 := by unfold lineLead; rw [if_pos (by rw [hse]; rfl)]
        have hy0 := mark_lead true (g big) ls i hlt (by rw [hse]; rfl)
        simp (maxSteps := 4000000) only [↓wpY_H, ↓wpYH_skip, ↓wpYH_ret, ↓wpYH_seq, ↓wpYH_cond, ↓wpYH_block, ↓wpYH_loop, ↓wpYH_region0, runYH_nil, runYH_cons, ↓oneYH_eq, yarg, yselH_none, yselH_some, yieldH_some, ↓thenY_normal, ↓thenY_ret, ↓blockY_ret, ↓endY_ret, endT_none, ↓iselH_true, ↓iselH_false, ↓fixG, setG, gw, gselH_plain, gselH_if, cselH_bool, ↓chk, justK, noW, ↓oneK, ↓pureK, ↓heapK, ↓stepEv, opnd, Pg.look, binK, intOp, strOp, dstOf, Bool.and_true, Bool.not_false, Bool.not_true, Bool.false_eq_true, Bool.true_eq_false, implies_true, true_and, and_true, pickC, pickV, unc, gof, mux, valV, heapV, footV, binV, intV, strV, ofV, ofLeaf, ldCells, AV.cells, TK.cells, AV.definite, lay, buildL, List.getElem?_toArray, List.getElem?_cons_succ, List.getElem?_cons_zero, Option.bind_some, Option.map_some, Option.getD_some, reduceCtorEq, Nat.reduceEqDiff, Nat.reduceAdd, List.nil_append, List.cons_append, List.length_cons, List.length_nil, List.map_cons, List.map_nil, Nat.zero_add, ite_true, ite_false, Option.some.injEq, Option.isSome_some, AV.agg.injEq, List.all_cons, List.all_nil, Bool.and_self, and_self, exists_eq_left', List.length_map, getD_str, Int.toNat_natCast, List.drop_zero, List.drop_succ_cons, List.take_zero, Nat.reduceLeDiff, tk4, tk9, dz9, tk22, tk36, tz36, kAsk, hct, hse, List.getElem?_map, hy0]
        refine ⟨by omega, rfl, rfl, ?_⟩
        refine loopYH_intro (α := Nat) (fun k => (some ((marksTo true (g big) ls i).length + lineLead true (ls.getD i []) + (marksIn (g big) i (ls.getD i []) k).length), [(0, .yld l), (1, .rp [.sl 1 (ls.map .str)]), (2, .rp [.bool true]), (3, .rp [.fn fid [.rp [.bool big]]]), (5, .int .i64 i), (6, .str (ls.getD i [])), (8, .sl 1 (ls.map .str)), (9, .int .i64 ls.length), (10, .int .i64 i), (28, .int .i64 (ls.getD i []).length), (29, .int .i64 k)], []))
          (fun k => k ≤ (ls.getD i []).length) (fun k => (ls.getD i []).length - k) 0 (by omega) (by rw [hl]; simp [marksIn]) ?_ ?_
        · simp (maxSteps := 4000000) only [Pg.look, subA, subQ, ptrsE, frzO, subF, subG, pickOf, frzE, frzC, frz0, frzH, Pg.freeze, List.foldl_nil, subOs, subEv, subV_succ, subM, reduceCtorEq, Nat.reduceEqDiff, List.append_nil, ite_true, ite_false, and_self, pickOK_nil, Int.cast_ofNat_Int]
          all_goals rfl
        intro k hk1
        have hm1 := marksIn_succ (g big) i (ls.getD i []) k
        by_cases hk2 : k < (ls.getD i []).length
        · have hct2 : decide ((k : Int) < ((ls.getD i []).length : Int)) = true := decide_eq_true (by omega)
          cases hg : g big (ls.getD i []) k with
          | true =>
            rw [if_pos hg] at hm1
            have hy := mark_in true (g big) ls i k hlt hk2 hg
            simp (maxSteps := 4000000) only [↓wpY_H, ↓wpYH_skip, ↓wpYH_ret, ↓wpYH_seq, ↓wpYH_cond, ↓wpYH_block, ↓wpYH_region0, runYH_nil, runYH_cons, ↓oneYH_eq, yarg, yselH_none, yselH_some, yieldH_some, ↓thenY_normal, ↓thenY_ret, ↓blockY_normal, ↓blockY_ret, ↓endY_ret, endT_none, ↓iselH_true, ↓iselH_false, ↓fixG, setG, gw, gselH_plain, gselH_if, cselH_bool, ↓chk, justK, noW, ↓oneK, ↓pureK, ↓heapK, ↓stepEv, opnd, Pg.look, binK, intOp, dstOf, Bool.and_true, Bool.not_false, Bool.not_true, Bool.false_eq_true, Bool.true_eq_false, implies_true, true_and, and_true, pickC, pickV, unc, gof, mux, valV, heapV, footV, binV, intV, ofV, ofLeaf, subA, subQ, ptrsE, frzO, subF, subG, pickOf, frzE, frzC, frz0, frzH, Pg.freeze, List.foldl_nil, subOs, subEv, subV_succ, subM, ldCells, ↓callT, callC, callV, callH, normArgs, normA, resL, res8_eq, res_succ, resM, shiftR, shift1, AV.cells, TK.cells, AV.definite, lay, buildL, List.getElem?_toArray, List.getElem?_cons_succ, List.getElem?_cons_zero, Option.bind_some, Option.map_some, Option.getD_some, reduceCtorEq, Nat.reduceEqDiff, Nat.reduceAdd, List.nil_append, List.append_nil, List.cons_append, List.length_cons, List.length_nil, List.map_cons, List.map_nil, Nat.zero_add, ite_true, ite_false, Option.some.injEq, Option.isSome_some, AV.agg.injEq, List.all_cons, List.all_nil, Bool.and_self, and_self, exists_eq_left', pickOK_nil, List.length_map, cInt_dec, cBool_dec, cStr_dec, cRp_dec, lOne_dec, lCons_dec, dec2_some, List.range'_zero, C1by_ns, C1by_pre, C1by_r, C1by_H, optP_some, optV_some, optH_some, Int.toNat_natCast, List.drop_zero, List.drop_succ_cons, List.take_succ_cons, List.take_zero, Nat.reduceLeDiff, Nat.le_refl, List.drop_nil, C1by_it, tk36, tz36, tk51, kAsk, eq_self, hct2, hg, Int.toNat_natCast, List.getElem?_map, hy]
            exact ⟨⟨by omega, by omega, by omega⟩, rfl, rfl, k + 1, by omega, by omega, by rw [hm1, List.length_append]; rfl, by rw [wrap64 (by omega) (by omega)]; rfl⟩
          | false =>
            rw [if_neg (by rw [hg]; simp)] at hm1
            simp (maxSteps := 4000000) only [↓wpY_H, ↓wpYH_skip, ↓wpYH_seq, ↓wpYH_cond, ↓wpYH_block, ↓wpYH_region0, runYH_nil, runYH_cons, ↓oneYH_eq, yarg, yselH_none, ↓thenY_normal, ↓blockY_normal, ↓iselH_true, ↓iselH_false, ↓fixG, setG, gw, gselH_plain, gselH_if, cselH_bool, ↓chk, justK, noW, ↓oneK, ↓pureK, ↓heapK, ↓stepEv, opnd, Pg.look, binK, intOp, dstOf, Bool.not_false, Bool.not_true, Bool.false_eq_true, implies_true, true_and, and_true, pickC, pickV, unc, gof, mux, valV, heapV, footV, binV, intV, ofV, ofLeaf, subA, subQ, ptrsE, frzO, subF, subG, pickOf, frzE, frzC, frz0, frzH, Pg.freeze, List.foldl_nil, subOs, subEv, subV_succ, subM, ldCells, ↓callT, callC, callV, callH, normArgs, normA, resL, res8_eq, res_succ, resM, shiftR, shift1, TK.cells, List.getElem?_toArray, List.getElem?_cons_succ, List.getElem?_cons_zero, Option.bind_some, Option.getD_some, reduceCtorEq, Nat.reduceEqDiff, List.nil_append, List.append_nil, List.cons_append, List.length_nil, List.map_cons, List.map_nil, ite_true, ite_false, Option.some.injEq, and_self, exists_eq_left', pickOK_nil, cInt_dec, cBool_dec, cStr_dec, cRp_dec, lOne_dec, lCons_dec, dec2_some, List.range'_zero, C1by_ns, C1by_pre, C1by_r, C1by_H, optP_some, optV_some, optH_some, Int.toNat_natCast, C1by_it, tk51, kAsk, eq_self, hct2, hg, Int.toNat_natCast]
            exact ⟨⟨by omega, by omega, by omega⟩, k + 1, by omega, by omega, by rw [hm1], by rw [wrap64 (by omega) (by omega)]; rfl⟩
        · have hcf2 : decide ((k : Int) < ((ls.getD i []).length : Int)) = false := decide_eq_false (by omega)
          have hke : k = (ls.getD i []).length := by omega
          subst hke
          simp (maxSteps := 4000000) only [↓wpY_H, ↓wpYH_exit, ↓wpYH_seq, ↓wpYH_cond, ↓wpYH_region0, runYH_nil, runYH_cons, ↓oneYH_eq, yarg, yselH_none, ↓thenY_normal, ↓thenY_exit, ↓blockY_normal, ↓blockY_exit, ↓endY_normal, endT_some, ↓iselH_false, gw, gselH_plain, cselH_bool, ↓chk, justK, ↓oneK, ↓pureK, ↓stepEv, opnd, Pg.look, binK, intOp, Bool.false_eq_true, implies_true, true_and, and_true, valV, heapV, footV, binV, intV, ofV, ofLeaf, subA, subQ, ptrsE, frzO, subF, subG, pickOf, frzE, frzC, frz0, frzH, Pg.freeze, List.foldl_nil, subOs, subEv, subV_succ, subM, reduceCtorEq, Nat.reduceEqDiff, List.append_nil, ite_true, ite_false, Option.some.injEq, and_self, pickOK_nil, List.length_map, kAsk, hcf2]
          exact ⟨i + 1, by omega, by omega, by rw [hts, List.length_append, hln]; omega, by rw [wrap64 (by omega) (by omega)]; rfl⟩
      | false =>
        have hl : lineLead true (ls.getD i []) = 0 := by unfold lineLead; rw [if_neg (by rw [hse]; decide)]
        simp (maxSteps := 4000000) only [↓wpY_H, ↓wpYH_skip, ↓wpYH_seq, ↓wpYH_cond, ↓wpYH_block, ↓wpYH_loop, ↓wpYH_region0, runYH_nil, runYH_cons, ↓oneYH_eq, yarg, yselH_none, ↓thenY_normal, ↓iselH_true, ↓iselH_false, ↓fixG, setG, gw, gselH_plain, gselH_if, cselH_bool, ↓chk, justK, noW, ↓oneK, ↓pureK, ↓heapK, ↓stepEv, opnd, Pg.look, binK, intOp, strOp, dstOf, Bool.not_false, Bool.not_true, Bool.false_eq_true, Bool.true_eq_false, implies_true, true_and, and_true, pickC, pickV, unc, gof, mux, valV, heapV, footV, binV, intV, strV, ofV, ofLeaf, ldCells, AV.cells, TK.cells, List.getElem?_toArray, List.getElem?_cons_succ, List.getElem?_cons_zero, Option.bind_some, Option.getD_some, reduceCtorEq, Nat.reduceEqDiff, ite_true, ite_false, Option.some.injEq, and_self, exists_eq_left', List.length_map, getD_str, Int.toNat_natCast, tk4, tk9, dz9, tk22, kAsk, hct, hse]
        refine ⟨by omega, ?_⟩
        refine loopYH_intro (α := Nat) (fun k => (some ((marksTo true (g big) ls i).length + lineLead true (ls.getD i []) + (marksIn (g big) i (ls.getD i []) k).length), [(0, .yld l), (1, .rp [.sl 1 (ls.map .str)]), (2, .rp [.bool true]), (3, .rp [.fn fid [.rp [.bool big]]]), (5, .int .i64 i), (6, .str (ls.getD i [])), (8, .sl 1 (ls.map .str)), (9, .int .i64 ls.length), (10, .int .i64 i), (28, .int .i64 (ls.getD i []).length), (29, .int .i64 k)], []))
          (fun k => k ≤ (ls.getD i []).length) (fun k => (ls.getD i []).length - k) 0 (by omega) (by rw [hl]; simp [marksIn]) ?_ ?_
        · simp (maxSteps := 4000000) only [Pg.look, subA, subQ, ptrsE, frzO, subF, subG, pickOf, frzE, frzC, frz0, frzH, Pg.freeze, List.foldl_nil, subOs, subEv, subV_succ, subM, reduceCtorEq, Nat.reduceEqDiff, List.append_nil, ite_true, ite_false, and_self, pickOK_nil, Int.cast_ofNat_Int]
          all_goals rfl
        intro k hk1
        have hm1 := marksIn_succ (g big) i (ls.getD i []) k
        by_cases hk2 : k < (ls.getD i []).length
        · have hct2 : decide ((k : Int) < ((ls.getD i []).length : Int)) = true := decide_eq_true (by omega)
          cases hg : g big (ls.getD i []) k with
          | true =>
            rw [if_pos hg] at hm1
            have hy := mark_in true (g big) ls i k hlt hk2 hg
            simp (maxSteps := 4000000) only [↓wpY_H, ↓wpYH_skip, ↓wpYH_ret, ↓wpYH_seq, ↓wpYH_cond, ↓wpYH_block, ↓wpYH_region0, runYH_nil, runYH_cons, ↓oneYH_eq, yarg, yselH_none, yselH_some, yieldH_some, ↓thenY_normal, ↓thenY_ret, ↓blockY_normal, ↓blockY_ret, ↓endY_ret, endT_none, ↓iselH_true, ↓iselH_false, ↓fixG, setG, gw, gselH_plain, gselH_if, cselH_bool, ↓chk, justK, noW, ↓oneK, ↓pureK, ↓heapK, ↓stepEv, opnd, Pg.look, binK, intOp, dstOf, Bool.and_true, Bool.not_false, Bool.not_true, Bool.false_eq_true, Bool.true_eq_false, implies_true, true_and, and_true, pickC, pickV, unc, gof, mux, valV, heapV, footV, binV, intV, ofV, ofLeaf, subA, subQ, ptrsE, frzO, subF, subG, pickOf, frzE, frzC, frz0, frzH, Pg.freeze, List.foldl_nil, subOs, subEv, subV_succ, subM, ldCells, ↓callT, callC, callV, callH, normArgs, normA, resL, res8_eq, res_succ, resM, shiftR, shift1, AV.cells, TK.cells, AV.definite, lay, buildL, List.getElem?_toArray, List.getElem?_cons_succ, List.getElem?_cons_zero, Option.bind_some, Option.map_some, Option.getD_some, reduceCtorEq, Nat.reduceEqDiff, Nat.reduceAdd, List.nil_append, List.append_nil, List.cons_append, List.length_cons, List.length_nil, List.map_cons, List.map_nil, Nat.zero_add, ite_true, ite_false, Option.some.injEq, Option.isSome_some, AV.agg.injEq, List.all_cons, List.all_nil, Bool.and_self, and_self, exists_eq_left', pickOK_nil, List.length_map, cInt_dec, cBool_dec, cStr_dec, cRp_dec, lOne_dec, lCons_dec, dec2_some, List.range'_zero, C1by_ns, C1by_pre, C1by_r, C1by_H, optP_some, optV_some, optH_some, Int.toNat_natCast, List.drop_zero, List.drop_succ_cons, List.take_succ_cons, List.take_zero, Nat.reduceLeDiff, Nat.le_refl, List.drop_nil, C1by_it, tk36, tz36, tk51, kAsk, eq_self, hct2, hg, Int.toNat_natCast, List.getElem?_map, hy]
            exact ⟨⟨by omega, by omega, by omega⟩, rfl, rfl, k + 1, by omega, by omega, by rw [hm1, List.length_append]; rfl, by rw [wrap64 (by omega) (by omega)]; rfl⟩
          | false =>
            rw [if_neg (by rw [hg]; simp)] at hm1
            simp (maxSteps := 4000000) only [↓wpY_H, ↓wpYH_skip, ↓wpYH_seq, ↓wpYH_cond, ↓wpYH_block, ↓wpYH_region0, runYH_nil, runYH_cons, ↓oneYH_eq, yarg, yselH_none, ↓thenY_normal, ↓blockY_normal, ↓iselH_true, ↓iselH_false, ↓fixG, setG, gw, gselH_plain, gselH_if, cselH_bool, ↓chk, justK, noW, ↓oneK, ↓pureK, ↓heapK, ↓stepEv, opnd, Pg.look, binK, intOp, dstOf, Bool.not_false, Bool.not_true, Bool.false_eq_true, implies_true, true_and, and_true, pickC, pickV, unc, gof, mux, valV, heapV, footV, binV, intV, ofV, ofLeaf, subA, subQ, ptrsE, frzO, subF, subG, pickOf, frzE, frzC, frz0, frzH, Pg.freeze, List.foldl_nil, subOs, subEv, subV_succ, subM, ldCells, ↓callT, callC, callV, callH, normArgs, normA, resL, res8_eq, res_succ, resM, shiftR, shift1, TK.cells, List.getElem?_toArray, List.getElem?_cons_succ, List.getElem?_cons_zero, Option.bind_some, Option.getD_some, reduceCtorEq, Nat.reduceEqDiff, List.nil_append, List.append_nil, List.cons_append, List.length_nil, List.map_cons, List.map_nil, ite_true, ite_false, Option.some.injEq, and_self, exists_eq_left', pickOK_nil, cInt_dec, cBool_dec, cStr_dec, cRp_dec, lOne_dec, lCons_dec, dec2_some, List.range'_zero, C1by_ns, C1by_pre, C1by_r, C1by_H, optP_some, optV_some, optH_some, Int.toNat_natCast, C1by_it, tk51, kAsk, eq_self, hct2, hg, Int.toNat_natCast]
            exact ⟨⟨by omega, by omega, by omega⟩, k + 1, by omega, by omega, by rw [hm1], by rw [wrap64 (by omega) (by omega)]; rfl⟩
        · have hcf2 : decide ((k : Int) < ((ls.getD i []).length : Int)) = false := decide_eq_false (by omega)
          have hke : k = (ls.getD i []).length := by omega
          subst hke
          simp (maxSteps := 4000000) only [↓wpY_H, ↓wpYH_exit, ↓wpYH_seq, ↓wpYH_cond, ↓wpYH_region0, runYH_nil, runYH_cons, ↓oneYH_eq, yarg, yselH_none, ↓thenY_normal, ↓thenY_exit, ↓blockY_normal, ↓blockY_exit, ↓endY_normal, endT_some, ↓iselH_false, gw, gselH_plain, cselH_bool, ↓chk, justK, ↓oneK, ↓pureK, ↓stepEv, opnd, Pg.look, binK, intOp, Bool.false_eq_true, implies_true, true_and, and_true, valV, heapV, footV, binV, intV, ofV, ofLeaf, subA, subQ, ptrsE, frzO, subF, subG, pickOf, frzE, frzC, frz0, frzH, Pg.freeze, List.foldl_nil, subOs, subEv, subV_succ, subM, reduceCtorEq, Nat.reduceEqDiff, List.append_nil, ite_true, ite_false, Option.some.injEq, and_self, pickOK_nil, List.length_map, kAsk, hcf2]
          exact ⟨i + 1, by omega, by omega, by rw [hts, List.length_append, hln]; omega, by rw [wrap64 (by omega) (by omega)]; rfl⟩
  · have hcf : decide ((i : Int) < (ls.length : Int)) = false := decide_eq_false (by omega)
    have hil : i = ls.length := by omega
    simp (maxSteps := 4000000) only [↓wpY_H, ↓wpYH_exit, ↓wpYH_seq, ↓wpYH_cond, ↓wpYH_region0, runYH_nil, runYH_cons, ↓oneYH_eq, yarg, yselH_none, ↓thenY_normal, ↓thenY_exit, ↓blockY_exit, ↓endY_normal, endT_some, ↓iselH_false, gw, gselH_plain, cselH_bool, ↓chk, justK, ↓oneK, ↓pureK, ↓stepEv, opnd, Pg.look, binK, intOp, Bool.false_eq_true, implies_true, true_and, valV, heapV, footV, binV, intV, reduceCtorEq, Nat.reduceEqDiff, ite_true, ite_false, and_self, List.length_map, kAsk, hcf]
    rw [hil]
end Go.Pg
namespace Go.Pg
open Go Go.Proofs

theorem ok_askS : C1OK Try.prog 29 (kAsk startB) := C1OK.by (by kernel_rfl) (fun d h => calls_askS d.1 d.2.1 d.2.2 h.1 h.2.1 h.2.2) (fun _ => rfl) (fun _ => rfl)
theorem ok_askE : C1OK Try.prog 31 (kAsk endB) := C1OK.by (by kernel_rfl) (fun d h => calls_askE d.1 d.2.1 d.2.2 h.1 h.2.1 h.2.2) (fun _ => rfl) (fun _ => rfl)

/-- A closure that is asked of bytes: which of the two, and of which words. -/
def cAskFn : Cd (Bool × Bool) where
  enc d := .fn (if d.1 = true then 29 else 31) [.rp [.bool d.2]]
  dec
    | .fn f [.rp [.bool b]] => if f = 29 then some (true, b) else if f = 31 then some (false, b) else none
    | _ => none
  ok v a h := by
    split at h
    · split at h
      · next e => cases h; rw [e]; rfl
      · split at h
        · next e => cases h; rw [e]; rfl
        · cases h
    · cases h
theorem cAskFn_decS (b : Bool) : cAskFn.dec (.fn 29 [.rp [.bool b]]) = some (true, b) := rfl
theorem cAskFn_decE (b : Bool) : cAskFn.dec (.fn 31 [.rp [.bool b]]) = some (false, b) := rfl

def gOf (st : Bool) (big : Bool) : List UInt8 → Nat → Bool := if st = true then startB big else endB big
def marksOf (st e big : Bool) (ls : Ls) : List (Int × Int) := marksTo e (gOf st big) ls ls.length
abbrev lAt : CdL (Ls × Bool × Bool × Bool) := lCons (cRp (lOne cStrs)) (lCons (cRp (lOne cBool)) (lOne (cRp (lOne cAskFn))))
def kAt : C1 := C1.itBy lAt (fun d => fits 65536 65536 d.1) (fun d => (marksOf d.2.2.1 d.2.1 d.2.2.2 d.1).map fun p => [aPos p])
theorem ok_at : C1OK Try.prog 44 kAt := by
  refine C1OK.itBy (by kernel_rfl) fun d h => ?_
  obtain ⟨ls, e, st, big⟩ := d
  cases st with
  | true => exact it_at ls e _ big startB h ok_askS
  | false => exact it_at ls e _ big endB h ok_askE

/-- The iterator, as a value. -/
def aAt (ls : Ls) (e st big : Bool) : AV := .fn 44 [.rp [.sl 1 (ls.map .str)], .rp [.bool e], .rp [.fn (if st = true then 29 else 31) [.rp [.bool big]]]]

set_option maxHeartbeats 4000000 in
theorem calls_at (ls : Ls) (e st big : Bool) : CallsR Try.prog 28 [.sl 1 (ls.map .str), .bool e, .fn (if st = true then 29 else 31) [.rp [.bool big]]] [] (aAt ls e st big) [] := by
  refine callsR_of (mrg := true) (dyn := []) (CtrOK.nil _) mixed Try.func28 rfl (by simp [Try.ntmps28]) (by kernel_rfl) ?_
  rw [show Try.f28.results.toList = [.tmp 6] from by kernel_rfl]
  simp (maxSteps := 4000000) only [↓wpA_H, ↓wpH_ret, ↓wpH_seq, ↓wpH_region, bselH_false, runH_nil, runH_cons, gw, gselH_plain, ↓chk, justK, noW, ↓oneK, ↓pureK, ↓heapK, envOf, ↓thenA_normal, ↓stepEv, opnd, Pg.look, Bool.false_eq_true, implies_true, valV, heapV, footV, ofV, ofLeaf, retA, resK, tupA, subA, subQ, ptrsE, frzO, subF, subG, pickOf, frzE, frzC, frzL, frz0, frzH, Pg.freeze, List.foldl_nil, List.foldl_cons, subOs, subEv, subV_succ, subM, subL, objAt, resL, res_succ, resM, AV.cells, AV.definite, frzAt, List.getElem?_cons_succ, List.getElem?_cons_zero, reduceCtorEq, Nat.reduceEqDiff, Nat.reduceAdd, List.nil_append, List.append_nil, List.cons_append, List.length_cons, List.length_nil, List.map_cons, List.map_nil, List.set_cons_zero, List.set_cons_succ, Nat.zero_add, ite_true, ite_false, List.all_cons, List.all_nil, Bool.and_self, and_self, pickOK_nil, resIn, List.contains_cons, List.contains_nil, Nat.reduceBEq, Bool.or_self, Bool.or_false, beq_self_eq_true, Bool.or_true, List.getD_cons_zero, List.drop_zero, Nat.zero_lt_succ, aAt]

def kAtF : C1 := C1.by [.sl 1 [], .id, .id] (lCons cStrs (lCons cBool (lOne cAskFn))) (fun _ => True) (fun d => aAt d.1 d.2.1 d.2.2.1 d.2.2.2) (fun _ => [])
theorem ok_atF : C1OK Try.prog 28 kAtF := C1OK.by (by kernel_rfl) (fun d _ => calls_at d.1 d.2.1 d.2.2.1 d.2.2.2) (fun d => by unfold aAt; rfl) (fun _ => rfl)

set_option maxHeartbeats 4000000 in
theorem calls_Starts (ls : Ls) (big : Bool) : CallsR Try.prog 11 [.sl 1 (ls.map .str), .bool big] [] (aAt ls true true big) [] := by
  refine callsR_of (mrg := true) (dyn := []) (CtrOK.cons ok_atF (CtrOK.nil _)) mixed Try.func11 rfl (by simp [Try.ntmps11]) (by kernel_rfl) ?_
  rw [show Try.f11.results.toList = [.tmp 4] from by kernel_rfl]
  simp (maxSteps := 4000000) only [↓wpA_H, ↓wpH_ret, ↓wpH_seq, ↓wpH_region, bselH_false, runH_nil, runH_cons, gw, gselH_plain, ↓chk, justK, noW, ↓oneK, ↓pureK, ↓heapK, envOf, ↓thenA_normal, ↓stepEv, opnd, Pg.look, Bool.false_eq_true, implies_true, valV, heapV, footV, ofV, ofLeaf, retA, resK, tupA, subA, subQ, ptrsE, frzO, subF, subG, pickOf, frzE, frzC, frzL, frz0, frzH, Pg.freeze, List.foldl_nil, List.foldl_cons, subOs, subEv, subV_succ, subM, subL, objAt, ↓callT, callC, callV, callH, normArgs, normA, normC, resL, res8_eq, res_succ, resM, shiftR, shift1, AV.cells, AV.definite, frzAt, List.getElem?_cons_zero, reduceCtorEq, Nat.reduceEqDiff, List.nil_append, List.append_nil, List.length_cons, List.length_nil, List.map_cons, List.map_nil, List.set_cons_zero, Nat.zero_add, ite_true, ite_false, and_self, pickOK_nil, cBool_dec, cSl_dec, lOne_dec, lCons_dec, dec2_some, List.contains_nil, List.range'_zero, decL_str, C1by_ns, C1by_pre, C1by_r, C1by_H, optP_some, optV_some, optH_some, List.getD_cons_zero, List.drop_zero, Nat.zero_lt_succ, C1by_it, aAt, kAtF, cAskFn_decS]

set_option maxHeartbeats 4000000 in
theorem calls_Ends (ls : Ls) (big : Bool) : CallsR Try.prog 12 [.sl 1 (ls.map .str), .bool big] [] (aAt ls false false big) [] := by
  refine callsR_of (mrg := true) (dyn := []) (CtrOK.cons ok_atF (CtrOK.nil _)) mixed Try.func12 rfl (by simp [Try.ntmps12]) (by kernel_rfl) ?_
  rw [show Try.f12.results.toList = [.tmp 4] from by kernel_rfl]
  simp (maxSteps := 4000000) only [↓wpA_H, ↓wpH_ret, ↓wpH_seq, ↓wpH_region, bselH_false, runH_nil, runH_cons, gw, gselH_plain, ↓chk, justK, noW, ↓oneK, ↓pureK, ↓heapK, envOf, ↓thenA_normal, ↓stepEv, opnd, Pg.look, Bool.false_eq_true, implies_true, valV, heapV, footV, ofV, ofLeaf, retA, resK, tupA, subA, subQ, ptrsE, frzO, subF, subG, pickOf, frzE, frzC, frzL, frz0, frzH, Pg.freeze, List.foldl_nil, List.foldl_cons, subOs, subEv, subV_succ, subM, subL, objAt, ↓callT, callC, callV, callH, normArgs, normA, normC, resL, res8_eq, res_succ, resM, shiftR, shift1, AV.cells, AV.definite, frzAt, List.getElem?_cons_zero, reduceCtorEq, Nat.reduceEqDiff, List.nil_append, List.append_nil, List.length_cons, List.length_nil, List.map_cons, List.map_nil, List.set_cons_zero, Nat.zero_add, ite_true, ite_false, and_self, pickOK_nil, cBool_dec, cSl_dec, lOne_dec, lCons_dec, dec2_some, List.contains_nil, List.range'_zero, decL_str, C1by_ns, C1by_pre, C1by_r, C1by_H, optP_some, optV_some, optH_some, List.getD_cons_zero, List.drop_zero, Nat.zero_lt_succ, C1by_it, aAt, kAtF, cAskFn_decE]
end Go.Pg
namespace Go.Pg
open Go Go.Proofs

theorem ft_seq : funcT Try.prog 28 = true := by kernel_rfl

theorem subX_nls {H : AH} {F : List Nat} {pick : List (Option Nat)} {i sz : Nat} (h : pick[i]? = some none) : subX H F pick [.nls] [.own i sz 0] := .inr ⟨⟨⟨h, rfl⟩, trivial⟩, trivial⟩
theorem subX_own {H : AH} {F : List Nat} {pick : List (Option Nat)} {i j sz n n' : Nat} (h : pick[i]? = some (some j)) (hn : n = n') : subX H F pick [.own j sz n] [.own i sz n'] := .inr ⟨⟨⟨h, rfl, hn⟩, trivial⟩, trivial⟩
theorem aPos_def (p : Int × Int) : aPos p = .agg [.int .i64 p.1, .int .i64 p.2] := rfl
def heardN (n : Int) : Nat := (max n 1).toNat

set_option maxRecDepth 20000 in
set_option maxHeartbeats 4000000 in
theorem calls_heard (ls : Ls) (e st big : Bool) (most : Int) (hf : fits 65536 65536 ls) : CallsR Try.prog 10 [aAt ls e st big, .int .i64 most] [] (.tuple [.sl 2 (((marksOf st e big ls).take (heardN most)).map aPos), .bool true]) [] := by
  refine callsR_of (mrg := true) (dyn := []) (CtrOK.cons ok_at (CtrOK.nil _)) mixed Try.func10 rfl (by simp [Try.ntmps10]) (by kernel_rfl) ?_
  rw [show Try.f10.results.toList = [.tmp 4, .tmp 5] from by kernel_rfl]
  have hml : (marksOf st e big ls).length ≤ 4295032832 := by
    have h1 := marksTo_len e (gOf st big) ls 65536 (fits_getD hf) ls.length
    have h2 : ls.length * (65536 + 1) ≤ 65536 * 65537 := Nat.mul_le_mul hf.1 (by omega)
    show (marksTo e (gOf st big) ls ls.length).length ≤ _
    omega
  generalize hM : marksOf st e big ls = M at hml ⊢
  cases st
  all_goals
    unfold aAt
    simp (maxSteps := 4000000) only [↓wpA_H, ↓wpH_skip, ↓wpH_seq, ↓wpH_cond, ↓wpH_block, ↓wpH_region, ↓iselH_false, bselH_false, runH_nil, runH_cons, gw, gselH_plain, cselH_bool, ↓chk, justK, noW, ↓oneK, ↓pureK, ↓heapK, envOf, ↓thenA_normal, ↓stepEv, opnd, Pg.look, binK, Bool.false_eq_true, implies_true, true_and, valV, heapV, footV, binV, ofV, ofLeaf, Pg.freeze, List.foldl_nil, resL, res8_eq, res_succ, resM, AV.cells, AV.definite, reduceCtorEq, Nat.reduceEqDiff, List.nil_append, List.append_nil, List.cons_append, List.length_cons, List.length_nil, Nat.zero_add, ite_true, ite_false, and_self, cBool_dec, cSl_dec, cRp_dec, lOne_dec, lCons_dec, dec2_some, List.contains_nil, decL_str, optP_some, ↓wpH_range, rangH_fn, rangR_some, iterC, C1itBy_it, C1itBy_pre, C1itBy_xs, optL_some, tz25, aPos, kAt, ft_seq, cAskFn_decS, cAskFn_decE]
    refine ⟨hf, ?_⟩
    rw [mark_eq, hM]
    refine rangG_intro M (fun p => [aPos p]) (0, 0) [(3, .ptr 0 1 1 0 0), (6, .ptr 1 1 1 0 0)] [.arr 3 1 [.int .i64 most], .arr 25 1 [.nls]]
      (fun k => ([(3, .ptr 0 1 1 0 0), (6, .ptr 1 1 1 0 0)], [.arr 3 1 [.int .i64 most], .arr 25 1 [.own 2 2 k], .arr 36 2 ((M.take k).map aPos)])) (fun k => k < heardN most) rfl ?_ ?_ (by unfold heardN; omega) (fun _ => rfl) ?_ ?_
    · simp (maxSteps := 4000000) only [Pg.look, true_and, and_true, subA, subQ, ptrsE, pairsO, frzO, subF, subG, pickOf, assocN, pairsE, pairsC, pairs0, frzE, frzC, frz0, frzH, Pg.freeze, List.foldl_nil, subOs, subO, subEv, subV_succ, subM, List.getElem?_cons_succ, List.getElem?_cons_zero, reduceCtorEq, Nat.reduceEqDiff, List.nil_append, List.append_nil, List.cons_append, Nat.zero_add, ite_true, ite_false, and_self, Nat.lt_irrefl, Nat.not_lt_zero]
      exact ⟨by decide, subX_eq rfl rfl, subX_eq rfl rfl⟩
    · simp (maxSteps := 4000000) only [Pg.look, true_and, and_true, subA, subQ, ptrsE, pairsO, frzO, subF, subG, pickOf, assocN, pairsE, pairsC, pairs0, frzE, frzC, frz0, frzH, Pg.freeze, List.foldl_nil, subOs, subO, subEv, subV_succ, subM, List.getElem?_cons_succ, List.getElem?_cons_zero, reduceCtorEq, Nat.reduceEqDiff, Nat.reduceAdd, Nat.reduceLT, List.nil_append, List.append_nil, List.cons_append, List.length_cons, List.length_nil, List.map_nil, Nat.zero_add, ite_true, ite_false, and_self, List.take_zero, Nat.lt_irrefl, Nat.zero_lt_succ]
      exact ⟨by decide, subX_eq rfl rfl, subX_nls rfl⟩
    · intro k hk hpk
      have hpk : k < heardN most := hpk
      have hN : heardN most = (max most 1).toNat := rfl
      have hrl : (M.take k).length = k := by rw [List.length_take]; omega
      have hap := app1_pos (M.take k) (M.getD k (0, 0))
      rw [← take_succ_getD M k (0, 0) hk] at hap
      have hrl2 : (M.take (k + 1)).length = k + 1 := by rw [List.length_take]; omega
      by_cases hm : ((k + 1 : Nat) : Int) ≥ most
      · have hct : decide (((k + 1 : Nat) : Int) ≥ most) = true := decide_eq_true hm
        simp (maxSteps := 4000000) only [↓wpA_H, ↓wpH_ret, ↓wpH_exit, ↓wpH_seq, ↓wpH_cond, ↓wpH_block, ↓wpH_region, ↓iselH_true, bselH_false, runH_nil, runH_cons, gw, gselH_plain, cselH_bool, ↓chk, justK, noW, ↓oneK, ↓pureK, ↓heapK, ↓thenA_normal, ↓thenA_exit, ↓blockA_exit, ↓stepEv, opnd, Pg.look, binK, intOp, Bool.false_eq_true, implies_true, true_and, and_true, valV, heapV, footV, binV, intV, ofV, ofLeaf, retA, resK, tupA, subA, subQ, ptrsE, pairsO, frzO, subF, subG, pickOf, assocN, pairsE, pairsC, pairs0, frzE, frzC, frzL, frz0, frzH, Pg.freeze, List.foldl_nil, List.foldl_cons, subOs, subO, subEv, subV_succ, subM, subL, slen, srcV, srcE, appK, ldCells, objAt, res_succ, resM, AV.cells, TK.cells, AV.definite, AV.leaf, AV.leafy, putCells, lay, frzAt, List.getElem?_cons_succ, List.getElem?_cons_zero, Option.getD_some, reduceCtorEq, Nat.reduceEqDiff, Nat.reduceAdd, Nat.reduceLT, List.nil_append, List.append_nil, List.cons_append, List.length_cons, List.length_nil, List.map_cons, List.map_nil, List.set_cons_zero, List.set_cons_succ, Nat.zero_add, ite_true, ite_false, Option.some.injEq, Option.isSome_some, AV.int.injEq, AV.sl.injEq, List.all_cons, List.all_nil, Bool.and_self, and_self, exists_eq_left', pickOK_nil, List.length_map, rg1, resIn, List.contains_cons, List.contains_nil, Bool.or_false, beq_self_eq_true, Nat.reducePow, List.getD_cons_zero, cutL, List.drop_zero, List.drop_succ_cons, List.take_succ_cons, List.take_zero, Nat.sub_zero, Nat.reduceLeDiff, Nat.le_refl, Nat.lt_irrefl, Nat.one_mul, List.drop_nil, List.take_nil, Nat.zero_lt_succ, parE_cons, parE_nil, rqH_normal, rqH_exit, tk3, dz3, tk25, dz25, tk36, tz36, dz36, eb36, kAt, hrl, hrl2, hap, hct, pureB_posL, aPos_def]
        refine ⟨⟨by decide, by omega⟩, ?_⟩
        rw [show heardN most = k + 1 by omega]
      · have hct : decide (((k + 1 : Nat) : Int) ≥ most) = false := decide_eq_false hm
        simp (maxSteps := 4000000) only [↓wpA_H, ↓wpH_skip, ↓wpH_seq, ↓wpH_cond, ↓wpH_block, ↓wpH_region, ↓iselH_false, bselH_false, runH_nil, runH_cons, gw, gselH_plain, cselH_bool, ↓chk, justK, noW, ↓oneK, ↓pureK, ↓heapK, ↓thenA_normal, ↓blockA_normal, ↓stepEv, opnd, Pg.look, binK, intOp, Bool.false_eq_true, implies_true, true_and, and_true, valV, heapV, footV, binV, intV, ofV, ofLeaf, subA, subQ, ptrsE, pairsO, frzO, subF, subG, pickOf, assocN, pairsE, pairsC, pairs0, frzE, frzC, frz0, frzH, Pg.freeze, List.foldl_nil, subOs, subO, subEv, subV_succ, subM, slen, srcV, srcE, appK, ldCells, objAt, AV.cells, TK.cells, AV.definite, AV.leaf, AV.leafy, putCells, lay, List.getElem?_cons_succ, List.getElem?_cons_zero, Option.getD_some, reduceCtorEq, Nat.reduceEqDiff, Nat.reduceAdd, Nat.reduceLT, List.nil_append, List.append_nil, List.cons_append, List.length_cons, List.length_nil, List.map_cons, List.map_nil, List.set_cons_zero, List.set_cons_succ, Nat.zero_add, ite_true, ite_false, Option.some.injEq, Option.isSome_some, AV.int.injEq, List.all_cons, List.all_nil, Bool.and_self, and_self, exists_eq_left', List.length_map, rg1, List.contains_nil, beq_self_eq_true, Nat.reducePow, List.getD_cons_zero, cutL, List.drop_zero, List.drop_succ_cons, List.take_succ_cons, List.take_zero, Nat.sub_zero, Nat.reduceLeDiff, Nat.le_refl, Nat.lt_irrefl, Nat.one_mul, List.drop_nil, List.take_nil, Nat.zero_lt_succ, parE_cons, parE_nil, rqH_normal, tk3, dz3, tk25, dz25, tk36, tz36, dz36, eb36, hrl, hap, hct, aPos_def]
        exact ⟨⟨by decide, by omega⟩, by omega, by decide, subX_eq rfl rfl, subX_own rfl rfl, subX_eq rfl (pureB_posL _)⟩
    · intro hpk
      have hpk : M.length < heardN most := hpk
      rw [List.take_of_length_le (Nat.le_refl M.length)]
      simp (maxSteps := 4000000) only [↓wpA_H, ↓wpH_ret, ↓wpH_seq, ↓wpH_region, bselH_false, runH_nil, runH_cons, gw, gselH_plain, ↓chk, justK, noW, ↓oneK, ↓pureK, ↓heapK, ↓thenA_normal, ↓blockA_normal, ↓stepEv, opnd, Pg.look, Bool.false_eq_true, implies_true, true_and, and_true, valV, heapV, footV, ofV, ofLeaf, retA, resK, tupA, subA, subQ, ptrsE, frzO, subF, subG, pickOf, frzE, frzC, frzL, frz0, frzH, Pg.freeze, List.foldl_nil, List.foldl_cons, subOs, subEv, subV_succ, subM, subL, ldCells, objAt, res_succ, resM, AV.cells, TK.cells, frzAt, List.getElem?_cons_succ, List.getElem?_cons_zero, Option.getD_some, Nat.reduceEqDiff, List.append_nil, List.length_cons, List.length_nil, List.set_cons_zero, List.set_cons_succ, Nat.zero_add, ite_true, ite_false, Option.some.injEq, AV.sl.injEq, List.all_cons, List.all_nil, Bool.and_self, and_self, exists_eq_left', pickOK_nil, List.length_map, resIn, List.contains_cons, List.contains_nil, Bool.or_false, beq_self_eq_true, List.getD_cons_zero, Nat.zero_lt_succ, tk25, dz25, aPos, kAt, pureB_posL]
      rw [List.take_of_length_le (by omega)]
end Go.Pg
namespace Go.Pg
open Go Go.Proofs

def kStartsF : C1 := C1.by [.sl 1 [], .id] (lCons cStrs (lOne cBool)) (fun _ => True) (fun d => aAt d.1 true true d.2) (fun _ => [])
theorem ok_StartsF : C1OK Try.prog 11 kStartsF := C1OK.by (by kernel_rfl) (fun d _ => calls_Starts d.1 d.2) (fun d => by unfold aAt; rfl) (fun _ => rfl)
def kEndsF : C1 := C1.by [.sl 1 [], .id] (lCons cStrs (lOne cBool)) (fun _ => True) (fun d => aAt d.1 false false d.2) (fun _ => [])
theorem ok_EndsF : C1OK Try.prog 12 kEndsF := C1OK.by (by kernel_rfl) (fun d _ => calls_Ends d.1 d.2) (fun d => by unfold aAt; rfl) (fun _ => rfl)

theorem calls_fails (ls : Ls) (p : Int × Int) (n : Int) : CallsR Try.prog 33 [.sl 1 (ls.map .str), aPos p, .int .i64 n] [] (.bool (!may ls p n)) [] := by
  obtain ⟨p1, p2⟩ := p
  refine callsR_of (mrg := true) (dyn := []) (CtrOK.cons ok_CPlace (CtrOK.nil _)) mixed Try.func33 rfl (by simp [Try.ntmps33]) (by kernel_rfl) ?_
  rw [show Try.f33.results.toList = [.tmp 6] from by kernel_rfl]
  simp (maxSteps := 4000000) only [↓wpA_H, ↓wpH_ret, ↓wpH_seq, ↓wpH_region, bselH_false, runH_nil, runH_cons, gw, gselH_plain, gselH_if, kselH_1, gkind, ↓chk, justK, noW, ↓oneK, ↓pureK, ↓heapK, envOf, ↓thenA_normal, ↓stepEv, opnd, Pg.look, binK, intOp, dstOf, Bool.false_eq_true, implies_true, imp_self, true_and, and_true, pickC, pickV, unc, gof, mux, mergeK, condsL, valV, heapV, footV, binV, intV, mergeable, look_stripE, ofV, ofLeaf, sameK, retA, resK, tupA, subA, subQ, ptrsE, frzO, subF, subG, pickOf, frzE, frzC, frz0, frzH, Pg.freeze, List.foldl_nil, subOs, subEv, subV_succ, subM, ldCells, objAt, ↓callT, callC, callV, normArgs, normA, normC, resL, res8_eq, res_succ, resM, shiftR, shift1, AV.cells, TK.cells, AV.definite, Op.operands, Call.operands, Array.toList_append, List.getElem?_toArray, List.getElem?_cons_succ, List.getElem?_cons_zero, Option.bind_some, Option.getD_some, reduceCtorEq, Nat.reduceEqDiff, Nat.reduceAdd, List.nil_append, List.append_nil, List.cons_append, List.length_cons, List.length_nil, List.map_cons, List.map_nil, Nat.zero_add, ite_true, ite_false, Option.some.injEq, Bool.if_true_left, decide_eq_true_eq, decide_eq_false_iff_not, Int.not_lt, Bool.and_self, and_self, Bool.not_eq_true', exists_eq_left', pickOK_nil, cInt_dec, List.toList_toArray, cSl_dec, cAgg_dec, lOne_dec, lCons_dec, dec2_some, List.contains_nil, List.range'_zero, decL_str, C1by_ns, C1by_pre, C1by_r, C1by_H, optP_some, optV_some, optH_some, List.getD_cons_zero, cutL, List.drop_zero, List.take_succ_cons, Nat.sub_zero, Nat.le_refl, List.take_nil, Nat.zero_lt_succ, C1by_it, tk36, dz36, kRPlace, aPos, may]
  cases place ls p1 p2 <;> by_cases h : n < 1 <;> simp [h] <;> omega
def kFails : C1 := C1.by [.sl 1 [], .id, .id] (lCons cStrs (lCons cPos2 (lOne (cInt .i64)))) (fun _ => True) (fun d => .bool (!may d.1 d.2.1 d.2.2)) (fun _ => [])
theorem ok_fails : C1OK Try.prog 33 kFails := C1OK.by (by kernel_rfl) (fun d _ => calls_fails d.1 d.2.1 d.2.2) (fun _ => rfl) (fun _ => rfl)

/-- The motion to a line's end. -/
def wEnd (ls : Ls) (p : Int × Int) (l : Int) : Mv × Bool := if less p (l, (ls.getD l.toNat []).length) = true then mTo (l, (ls.getD l.toNat []).length) 0 else mNone
theorem calls_wEnd (ls : Ls) (p : Int × Int) (l : Int) (h0 : 0 ≤ l) (h1 : l < ls.length) : CallsR Try.prog 35 [.sl 1 (ls.map .str), aPos p, .int .i64 l] [] (aMove (wEnd ls p l)) [] := by
  obtain ⟨p1, p2⟩ := p
  refine callsR_of (mrg := true) (dyn := []) (CtrOK.cons ok_Less (CtrOK.nil _)) mixed Try.func35 rfl (by simp [Try.ntmps35]) (by kernel_rfl) ?_
  rw [show Try.f35.results.toList = [.cell 6 39, .tmp 7] from by kernel_rfl]
  cases hl : less (p1, p2) (l, (ls.getD l.toNat []).length) with
  | true =>
    rw [wEnd, if_pos hl]
    simp (maxSteps := 4000000) only [↓wpA_H, ↓wpH_skip, ↓wpH_ret, ↓wpH_seq, ↓wpH_cond, ↓wpH_region, ↓iselH_false, bselH_false, runH_nil, runH_cons, gw, gselH_plain, cselH_bool, ↓chk, justK, noW, ↓oneK, ↓pureK, ↓heapK, envOf, ↓thenA_normal, ↓stepEv, opnd, Pg.look, Bool.not_true, Bool.false_eq_true, implies_true, true_and, and_true, valV, heapV, footV, ofV, ofLeaf, retA, resK, tupA, subA, subQ, ptrsE, frzO, subF, subG, pickOf, frzE, frzC, frzL, frz0, frzH, Pg.freeze, List.foldl_nil, subOs, subEv, subV_succ, subM, subL, ldCells, objAt, ↓callT, callC, callV, callH, normArgs, normA, resL, res8_eq, res_succ, resM, shiftR, shift1, AV.cells, TK.cells, AV.definite, AV.leaf, AV.leafy, putCells, lay, buildL, List.getElem?_cons_succ, List.getElem?_cons_zero, Option.getD_some, reduceCtorEq, Nat.reduceEqDiff, Nat.reduceAdd, List.nil_append, List.append_nil, List.cons_append, List.length_cons, List.length_nil, List.map_cons, List.map_nil, List.set_cons_zero, List.set_cons_succ, Nat.zero_add, ite_true, ite_false, Option.some.injEq, Option.isSome_some, AV.agg.injEq, List.all_cons, List.all_nil, Bool.and_self, and_self, exists_eq_left', pickOK_nil, List.length_map, cInt_dec, cAgg_dec, lOne_dec, lCons_dec, dec2_some, List.contains_nil, List.range'_zero, C1by_ns, C1by_pre, C1by_r, C1by_H, optP_some, optV_some, optH_some, getD_str, List.getD_cons_zero, cutL, List.drop_zero, List.drop_succ_cons, List.take_succ_cons, List.take_zero, Nat.sub_zero, Nat.reduceLeDiff, Nat.le_refl, List.drop_nil, List.take_nil, Nat.zero_lt_succ, C1by_it, tk9, dz9, tk22, tk36, tz36, dz36, tk39, tz39, dz39, kLess, aPos, aMove, aMv, mTo, hl]
    exact ⟨by omega, by omega⟩
  | false =>
    rw [wEnd, if_neg (by rw [hl]; simp)]
    simp (maxSteps := 4000000) only [↓wpA_H, ↓wpH_ret, ↓wpH_seq, ↓wpH_cond, ↓wpH_region, ↓iselH_true, bselH_false, runH_nil, runH_cons, gw, gselH_plain, cselH_bool, ↓chk, justK, noW, ↓oneK, ↓pureK, ↓heapK, envOf, ↓thenA_normal, ↓thenA_ret, ↓stepEv, opnd, Pg.look, Bool.not_false, Bool.false_eq_true, implies_true, true_and, and_true, valV, heapV, footV, ofV, ofLeaf, retA, resK, tupA, subA, subQ, ptrsE, frzO, subF, subG, pickOf, frzE, frzC, frzL, frz0, frzH, Pg.freeze, List.foldl_nil, subOs, subEv, subV_succ, subM, subL, ldCells, objAt, ↓callT, callC, callV, callH, normArgs, normA, resL, res8_eq, res_succ, resM, shiftR, shift1, AV.cells, TK.cells, AV.definite, AV.leaf, AV.leafy, putCells, lay, buildL, List.getElem?_cons_succ, List.getElem?_cons_zero, Option.getD_some, reduceCtorEq, Nat.reduceEqDiff, Nat.reduceAdd, List.nil_append, List.append_nil, List.cons_append, List.length_cons, List.length_nil, List.map_cons, List.map_nil, List.set_cons_zero, List.set_cons_succ, Nat.zero_add, ite_true, ite_false, Option.some.injEq, Option.isSome_some, AV.agg.injEq, List.all_cons, List.all_nil, Bool.and_self, and_self, exists_eq_left', pickOK_nil, List.length_map, cInt_dec, cAgg_dec, lOne_dec, lCons_dec, dec2_some, List.contains_nil, List.range'_zero, C1by_ns, C1by_pre, C1by_r, C1by_H, optP_some, optV_some, optH_some, getD_str, List.getD_cons_zero, cutL, List.drop_zero, List.drop_succ_cons, List.take_succ_cons, List.take_zero, Nat.sub_zero, Nat.reduceLeDiff, Nat.le_refl, List.drop_nil, List.take_nil, Nat.zero_lt_succ, C1by_it, tk9, dz9, tk22, tk36, tz36, dz36, tk39, tz39, dz39, kLess, aPos, aMove, aMv, mNone, hl]
    exact ⟨by omega, by omega⟩
def kWEnd : C1 := C1.by [.sl 1 [], .id, .id] (lCons cStrs (lCons cPos2 (lOne (cInt .i64)))) (fun d => 0 ≤ d.2.2 ∧ d.2.2 < d.1.length) (fun d => aMove (wEnd d.1 d.2.1 d.2.2)) (fun _ => [])
theorem ok_wEnd : C1OK Try.prog 35 kWEnd := C1OK.by (by kernel_rfl) (fun d h => calls_wEnd d.1 d.2.1 d.2.2 h.1 h.2) (fun _ => rfl) (fun _ => rfl)
end Go.Pg
