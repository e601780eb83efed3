/- Sizes of lines, lines that may be asked, places, changes held against one another. -/
import Derived.Test.YtefihnkbelhneaaDoorPgFs5
namespace Go.Pg
open Go Go.Proofs

theorem calls_Change (x y : Int × Ls × Ls) (h : x.2.1.length ≤ 140737488355328 ∧ x.2.2.length ≤ 140737488355328 ∧ y.2.1.length ≤ 140737488355328 ∧ y.2.2.length ≤ 140737488355328) :
    CallsR Tryd.prog 30 [aCh x, aCh y] [] (.bool (x == y)) [] := by
  refine callsR_of (mrg := true) (dyn := []) (CtrOK.cons ok_Strings (CtrOK.nil _)) mixed Tryd.func30 rfl (by simp [Tryd.ntmps30]) (by kernel_rfl) ?_
  rw [show Tryd.f30.results.toList = [.tmp 4] from by kernel_rfl]
  simp (maxSteps := 4000000) only [↓wpA_H, ↓wpH_ret, ↓wpH_seq, ↓wpH_region, bselH_false, runH_nil, runH_cons, gw, gselH_plain, gselH_if, kselH_1, gkind, ↓chk, justK, noW, ↓oneK, ↓pureK, ↓heapK, envOf, ↓thenA_normal, ↓stepEv, opnd, Pg.look, binK, intOp, dstOf, Bool.false_eq_true, implies_true, imp_self, true_and, and_true, pickC, pickV, unc, gof, mux, mergeK, condsL, valV, heapV, footV, binV, intV, mergeable, look_stripE, ofV, ofLeaf, sameK, retA, resK, tupA, subA, subQ, ptrsE, frzO, subF, subG, pickOf, frzE, frzC, frz0, frzH, Pg.freeze, List.foldl_nil, subOs, subEv, subV_succ, subM, ldCells, objAt, ↓callT, callC, callV, normArgs, normA, normC, resL, res8_eq, res_succ, resM, shiftR, shift1, AV.cells, TK.cells, AV.definite, Op.operands, Call.operands, Array.toList_append, List.getElem?_toArray, List.getElem?_cons_succ, List.getElem?_cons_zero, Option.bind_some, Option.getD_some, reduceCtorEq, Nat.reduceEqDiff, Nat.reduceAdd, List.nil_append, List.append_nil, List.cons_append, List.length_cons, List.length_nil, List.map_cons, List.map_nil, Nat.zero_add, ite_true, ite_false, Option.some.injEq, Bool.if_false_right, Bool.decide_eq_true, Bool.and_self, and_self, exists_eq_left', pickOK_nil, List.toList_toArray, cSl_dec, lOne_dec, lCons_dec, dec2_some, List.contains_nil, List.range'_zero, decL_str, C1by_ns, C1by_pre, C1by_r, C1by_H, optP_some, optV_some, optH_some, List.getD_cons_zero, Nat.add_zero, Nat.zero_lt_succ, tk3, tk22, tk31, dz31, kStrings, aCh]
  obtain ⟨h1, h2, h3, h4⟩ := h
  refine ⟨fun e => ⟨e, h1, h3⟩, fun e => ⟨e, h2, h4⟩, ?_⟩
  obtain ⟨x1, x2, x3⟩ := x
  obtain ⟨y1, y2, y3⟩ := y
  rw [Bool.and_assoc]
  rfl

theorem calls_SPlace (ls : Ls) (a b : Int) (h0 : 0 < ls.length) (hs : small ls) (ha : 0 ≤ a ∧ a < 65536) (hb : 0 ≤ b ∧ b < 65536) :
    CallsR Tryd.prog 12 [.sl 1 (ls.map .str), .int .u16 a, .int .u16 b] [] (aPos (a % ls.length, b % ((ls.getD (a % ls.length).toNat []).length + 1))) [] := by
  refine callsR_of (mrg := true) (dyn := []) (CtrOK.nil _) mixed Tryd.func12 rfl (by simp [Tryd.ntmps12]) (by kernel_rfl) ?_
  rw [show Tryd.f12.results.toList = [.cell 6 24] from by kernel_rfl]
  simp (maxSteps := 4000000) only [↓wpA_H, ↓wpH_ret, ↓wpH_seq, ↓wpH_region, bselH_false, runH_nil, runH_cons, gw, gselH_plain, ↓chk, justK, noW, ↓oneK, ↓pureK, ↓heapK, envOf, ↓thenA_normal, ↓stepEv, opnd, Pg.look, binK, intOp, Bool.false_eq_true, implies_true, true_and, and_true, valV, heapV, footV, binV, intV, ofV, ofLeaf, retA, resK, tupA, subA, subQ, ptrsE, frzO, subF, subG, pickOf, frzE, frzC, frzL, frz0, frzH, Pg.freeze, List.foldl_nil, subOs, subEv, subV_succ, subM, subL, slen, ldCells, objAt, res_succ, resM, AV.cells, TK.cells, AV.definite, AV.leaf, AV.leafy, putCells, lay, buildL, List.getElem?_cons_succ, List.getElem?_cons_zero, Option.getD_some, reduceCtorEq, Nat.reduceEqDiff, Nat.reduceAdd, List.nil_append, List.append_nil, List.cons_append, List.length_cons, List.length_nil, List.map_cons, List.map_nil, List.set_cons_zero, Nat.zero_add, ite_true, ite_false, Option.some.injEq, Option.isSome_some, AV.int.injEq, AV.agg.injEq, ne_eq, not_false_eq_true, List.all_cons, List.all_nil, Bool.and_self, and_self, exists_eq_left', pickOK_nil, List.length_map, List.contains_nil, getD_str, List.getD_cons_zero, cutL, List.drop_zero, List.drop_succ_cons, List.take_succ_cons, List.take_zero, Nat.sub_zero, Nat.reduceLeDiff, Nat.le_refl, List.drop_nil, List.take_nil, Nat.zero_lt_succ, tk3, tk9, dz9, tk22, tk24, tz24, dz24, tk25, aPos]
  have h1 := hs.1
  have h2 := hs.2 (a % ls.length).toNat
  rw [wrap64 (n := a) (by omega) (by omega), wrap64 (n := b) (by omega) (by omega), Int.tmod_eq_emod_of_nonneg ha.1, wrap64 (by omega) (by omega), Int.tmod_eq_emod_of_nonneg hb.1]
  have h3 := Int.emod_nonneg a (b := ls.length) (by omega)
  have h4 := Int.emod_lt_of_pos a (b := ls.length) (by omega)
  exact ⟨by omega, by omega, by omega, rfl, rfl⟩

def size (ls : Ls) : Int := (ls.map fun s => (s.length : Int) + 1).sum
def total (ls : Ls) : Nat := (ls.map List.length).sum
def light (ls : Ls) : Bool := decide (ls.length ≤ 40) && decide (total ls ≤ 1200) && ls.all fun s => s.all fun b => b != 10
def text (ls : Ls) : Bool := decide (0 < ls.length) && light ls

theorem take_succ_getD {α : Type} (l : List α) (i : Nat) (d : α) (h : i < l.length) : l.take (i + 1) = l.take i ++ [l.getD i d] := by
  rw [List.take_succ_eq_append_getElem h, List.getD_eq_getElem?_getD, List.getElem?_eq_getElem h]; rfl

theorem size_take (ls : Ls) (i : Nat) (h : i < ls.length) : size (ls.take (i + 1)) = size (ls.take i) + ((ls.getD i []).length + 1) := by
  rw [take_succ_getD ls i [] h]; simp [size]
theorem total_take (ls : Ls) (i : Nat) (h : i < ls.length) : total (ls.take (i + 1)) = total (ls.take i) + (ls.getD i []).length := by
  rw [take_succ_getD ls i [] h]; simp [total]
theorem total_take_le (ls : Ls) (i : Nat) : total (ls.take i) ≤ total ls := by
  have h := List.take_append_drop i ls
  have : total ls = total (ls.take i) + total (ls.drop i) := by
    conv => lhs; rw [← h]
    simp only [total, List.map_append, List.sum_append]
  omega
theorem size_le (ls : Ls) (B : Nat) (h : ∀ i, (ls.getD i []).length ≤ B) (i : Nat) (hi : i ≤ ls.length) : 0 ≤ size (ls.take i) ∧ size (ls.take i) ≤ i * (B + 1) := by
  induction i with
  | zero => simp [size]
  | succ i ih =>
    have h1 := ih (by omega)
    have h2 := h i
    rw [size_take ls i (by omega), Int.natCast_add, Int.add_mul]
    omega

/-- Not too many lines, and none of them long. -/
def few (ls : Ls) : Prop := ls.length ≤ 1048576 ∧ ∀ i, (ls.getD i []).length ≤ 1048576

theorem not_light (ls : Ls) (i : Nat) (h : 1200 < total (ls.take i)) : light ls = false := by
  have := total_take_le ls i
  simp only [light, Bool.and_eq_false_imp, Bool.and_eq_true, decide_eq_true_eq]
  omega
theorem not_light_at (ls : Ls) (i k : Nat) (hi : i < ls.length) (hk : k < (ls.getD i []).length) (h : (ls.getD i []).getD k 0 = 10) : light ls = false := by
  rw [Bool.eq_false_iff]
  intro hl
  simp only [light, Bool.and_eq_true, List.all_eq_true] at hl
  have h1 := hl.2 (ls.getD i []) (by rw [List.getD_eq_getElem?_getD, List.getElem?_eq_getElem hi]; simp) ((ls.getD i []).getD k 0) (by
    generalize ls.getD i [] = s at hk
    rw [List.getD_eq_getElem?_getD, List.getElem?_eq_getElem hk]; simp)
  rw [h] at h1
  cases h1

theorem calls_Light (ls : Ls) (hs : ∀ i, (ls.getD i []).length ≤ 140737488355328) : CallsR Tryd.prog 11 [.sl 1 (ls.map .str)] [] (.bool (light ls)) [] := by
  refine callsR_of (mrg := true) (dyn := []) (CtrOK.nil _) mixed Tryd.func11 rfl (by simp [Tryd.ntmps11]) (by kernel_rfl) ?_
  rw [show Tryd.f11.results.toList = [.tmp 2] from by kernel_rfl]
  simp (maxSteps := 4000000) only [↓wpA_H, ↓wpH_skip, ↓wpH_ret, ↓wpH_seq, ↓wpH_cond, ↓wpH_block, ↓wpH_loop, ↓wpH_region, iselH_if, bselH_false, runH_nil, runH_cons, gw, gselH_plain, cselH_bool, ↓chk, justK, ↓oneK, ↓pureK, envOf, ↓thenA_normal, ↓thenA_ret, ↓stepEv, opnd, Pg.look, binK, intOp, Bool.false_eq_true, implies_true, true_and, and_true, valV, heapV, footV, binV, intV, ofV, ofLeaf, retA, resK, tupA, subA, subQ, ptrsE, frzO, subF, subG, pickOf, frzE, frzC, frz0, frzH, Pg.freeze, List.foldl_nil, subOs, subEv, subV_succ, subM, slen, Option.getD_some, reduceCtorEq, Nat.reduceEqDiff, List.append_nil, List.length_nil, ite_true, ite_false, Option.some.injEq, AV.int.injEq, decide_eq_true_eq, decide_eq_false_iff_not, Int.not_lt, and_self, exists_eq_left', pickOK_nil, List.length_map, List.contains_nil, tk22]
  refine ⟨fun h => ?_, fun h0 => ?_⟩
  · symm
    simp only [light, Bool.and_eq_false_imp, Bool.and_eq_true, decide_eq_true_eq]
    omega
  refine loopH_intro (α := Nat) (fun i => ([(0, .sl 1 (ls.map .str)), (2, .bool false), (3, .int .i64 (total (ls.take i))), (4, .int .i64 i)], [])) (fun i => i ≤ ls.length ∧ total (ls.take i) ≤ 1200 ∧ (ls.take i).all (fun s => s.all fun b => b != 10)) (fun i => ls.length - i) 0 ?_ ?_ ?_
  · simp [total]
  · simp (maxSteps := 4000000) only [Pg.look, true_and, and_true, subA, subQ, ptrsE, frzO, subF, subG, pickOf, frzE, frzC, frz0, frzH, Pg.freeze, List.foldl_nil, subOs, subEv, subV_succ, subM, reduceCtorEq, Nat.reduceEqDiff, List.append_nil, ite_true, ite_false, and_self, pickOK_nil, Int.cast_ofNat_Int, List.take_zero]
    all_goals simp [total]
  · intro i hi
    simp (maxSteps := 4000000) only [↓wpA_H, ↓wpH_skip, ↓wpH_ret, ↓wpH_exit, ↓wpH_seq, ↓wpH_cond, ↓wpH_block, ↓wpH_loop, ↓wpH_region, iselH_if, bselH_false, runH_nil, runH_cons, gw, gselH_plain, cselH_bool, ↓chk, justK, noW, ↓oneK, ↓pureK, ↓heapK, ↓thenA_normal, ↓thenA_ret, ↓thenA_exit, ↓blockA_ret, ↓blockA_exit, ↓stepEv, opnd, Pg.look, binK, intOp, Bool.false_eq_true, implies_true, true_and, and_true, valV, heapV, footV, binV, intV, ofV, ofLeaf, retA, resK, tupA, subA, subQ, ptrsE, frzO, subF, subG, pickOf, frzE, frzC, frz0, frzH, Pg.freeze, List.foldl_nil, subOs, subEv, subV_succ, subM, slen, ldCells, AV.cells, TK.cells, List.getElem?_cons_zero, Option.getD_some, reduceCtorEq, Nat.reduceEqDiff, List.append_nil, List.length_nil, ite_true, ite_false, Option.some.injEq, AV.int.injEq, decide_eq_true_eq, decide_eq_false_iff_not, Int.not_lt, and_self, exists_eq_left', pickOK_nil, List.length_map, List.contains_nil, getD_str, Int.toNat_natCast, tk9, dz9, tk22]
    have h3 := hs i
    have h4 := total_take ls i
    refine ⟨fun h => ⟨by omega, fun h2 => ?_, fun h2 => ?_⟩, fun h => ?_⟩
    · rw [wrap64 (by omega) (by omega)] at h2
      symm
      exact not_light ls (i + 1) (by omega)
    · rw [wrap64 (by omega) (by omega)] at h2
      refine loopH_intro (α := Nat) (fun k => ([(0, .sl 1 (ls.map .str)), (2, .bool false), (3, .int .i64 (total (ls.take (i + 1)))), (4, .int .i64 i), (5, .int .i64 k)], [])) (fun k => k ≤ (ls.getD i []).length ∧ ((ls.getD i []).take k).all (fun b => b != 10)) (fun k => (ls.getD i []).length - k) 0 ?_ ?_ ?_
      · simp
      · simp (maxSteps := 4000000) only [Pg.look, true_and, and_true, subA, subQ, ptrsE, frzO, subF, subG, pickOf, frzE, frzC, frz0, frzH, Pg.freeze, List.foldl_nil, subOs, subEv, subV_succ, subM, reduceCtorEq, Nat.reduceEqDiff, List.append_nil, ite_true, ite_false, and_self, pickOK_nil, Int.cast_ofNat_Int]
        rw [wrap64 (by omega) (by omega)]
        omega
      · intro k hk
        simp (maxSteps := 4000000) only [↓wpA_H, ↓wpH_skip, ↓wpH_ret, ↓wpH_exit, ↓wpH_seq, ↓wpH_cond, ↓wpH_block, ↓wpH_region, iselH_if, bselH_false, runH_nil, runH_cons, gw, gselH_plain, cselH_bool, ↓chk, justK, noW, ↓oneK, ↓pureK, ↓heapK, ↓thenA_normal, ↓thenA_ret, ↓thenA_exit, ↓blockA_normal, ↓blockA_ret, ↓blockA_exit, ↓stepEv, opnd, Pg.look, binK, intOp, Bool.false_eq_true, implies_true, true_and, and_true, valV, heapV, footV, binV, intV, ofV, ofLeaf, retA, resK, tupA, subA, subQ, ptrsE, frzO, subF, subG, pickOf, frzE, frzC, frz0, frzH, Pg.freeze, List.foldl_nil, subOs, subEv, subV_succ, subM, ldCells, AV.cells, TK.cells, List.getElem?_cons_zero, Option.getD_some, reduceCtorEq, Nat.reduceEqDiff, List.append_nil, List.length_nil, ite_true, ite_false, Option.some.injEq, decide_eq_true_eq, decide_eq_false_iff_not, Int.not_lt, and_self, exists_eq_left', pickOK_nil, List.length_map, List.contains_nil, getD_str, Int.toNat_natCast, tk9, dz9, tk22]
        refine ⟨by omega, fun h5 => ⟨by omega, by omega, fun h6 => ?_, fun h6 => ⟨k + 1, ⟨by omega, ?_⟩, by omega, by rw [wrap64 (by omega) (by omega)]; omega⟩⟩, fun h5 => ⟨i + 1, ⟨by omega, by omega, ?_⟩, by omega, rfl, by rw [wrap64 (by omega) (by omega)]; omega⟩⟩
        · symm
          refine not_light_at ls i k (by omega) (by omega) ?_
          have h7 : ((ls.getD i []).getD k 0).toNat = 10 := by have := eq_of_beq h6; omega
          exact UInt8.toNat_inj.1 h7
        · rw [take_succ_getD _ k 0 (by omega), List.all_append, hk.2]
          simp only [List.all_cons, List.all_nil, Bool.and_true, Bool.true_and, bne_iff_ne, ne_eq]
          intro h7
          rw [h7] at h6
          exact absurd h6 (by decide)
        · have h8 : k = (ls.getD i []).length := by omega
          have h9 := hk.2
          rw [h8, List.take_length] at h9
          rw [take_succ_getD _ i [] (by omega), List.all_append, hi.2.2]
          simp only [List.all_cons, List.all_nil, h9, Bool.and_self]
    · have : i = ls.length := by omega
      subst this
      rw [List.take_length] at hi
      symm
      have h1 : ls.length ≤ 40 := by omega
      simp [light, hi, h1]

def kLight : C1 := C1.by [.sl 1 []] (lOne cStrs) (fun d => ∀ i, (d.getD i []).length ≤ 140737488355328) (fun d => .bool (light d)) (fun _ => [])
theorem ok_Light : C1OK Tryd.prog 11 kLight := C1OK.by (by kernel_rfl) (fun d h => calls_Light d h) (fun _ => rfl) (fun _ => rfl)

theorem calls_Text (ls : Ls) (hs : ∀ i, (ls.getD i []).length ≤ 140737488355328) : CallsR Tryd.prog 10 [.sl 1 (ls.map .str)] [] (.bool (text ls)) [] := by
  refine callsR_of (mrg := true) (dyn := []) (CtrOK.cons ok_Light (CtrOK.nil _)) mixed Tryd.func10 rfl (by simp [Tryd.ntmps10]) (by kernel_rfl) ?_
  rw [show Tryd.f10.results.toList = [.tmp 2] from by kernel_rfl]
  simp (maxSteps := 4000000) only [↓wpA_H, ↓wpH_ret, ↓wpH_seq, ↓wpH_region, bselH_false, runH_nil, runH_cons, gw, gselH_plain, gselH_if, kselH_1, gkind, ↓chk, justK, ↓oneK, ↓pureK, envOf, ↓thenA_normal, ↓stepEv, opnd, Pg.look, binK, intOp, dstOf, Bool.false_eq_true, implies_true, imp_self, true_and, and_true, pickC, pickV, unc, gof, mux, mergeK, condsL, valV, heapV, footV, binV, intV, mergeable, look_stripE, ofV, ofLeaf, sameK, retA, resK, tupA, subA, subQ, ptrsE, frzO, subF, subG, pickOf, frzE, frzC, frz0, frzH, Pg.freeze, List.foldl_nil, subOs, subEv, subV_succ, subM, slen, ↓callT, callC, callV, normArgs, normA, normC, resL, res8_eq, res_succ, resM, shiftR, shift1, Op.operands, Call.operands, Array.toList_append, List.getElem?_toArray, List.getElem?_cons_succ, List.getElem?_cons_zero, Option.bind_some, Option.getD_some, reduceCtorEq, Nat.reduceEqDiff, List.nil_append, List.append_nil, List.cons_append, List.length_nil, List.map_cons, List.map_nil, ite_true, ite_false, Option.some.injEq, AV.int.injEq, Bool.if_false_right, decide_eq_true_eq, decide_eq_false_iff_not, Int.not_lt, Bool.and_self, and_self, exists_eq_left', pickOK_nil, List.length_map, List.toList_toArray, cSl_dec, lOne_dec, List.contains_nil, List.range'_zero, decL_str, C1by_ns, C1by_pre, C1by_r, C1by_H, optP_some, optV_some, optH_some, tk22, kLight]
  refine ⟨fun h => ⟨h, hs⟩, ?_⟩
  rw [text]
  congr 1
  by_cases h : 0 < ls.length <;> simp [h]

def kText : C1 := C1.by [.sl 1 []] (lOne cStrs) (fun d => ∀ i, (d.getD i []).length ≤ 140737488355328) (fun d => .bool (text d)) (fun _ => [])
theorem ok_Text : C1OK Tryd.prog 10 kText := C1OK.by (by kernel_rfl) (fun d h => calls_Text d h) (fun _ => rfl) (fun _ => rfl)

/-- What lines that may be asked are. -/
theorem few_of_text {ls : Ls} (h : text ls = true) : 0 < ls.length ∧ ls.length ≤ 40 ∧ (∀ i, (ls.getD i []).length ≤ 1200) := by
  simp only [text, light, Bool.and_eq_true, decide_eq_true_eq] at h
  refine ⟨h.1, h.2.1.1, fun i => ?_⟩
  by_cases hi : i < ls.length
  · have h1 := total_take ls i hi
    have h2 := total_take_le ls (i + 1)
    omega
  · simp [List.getD_eq_getElem?_getD, List.getElem?_eq_none (Nat.le_of_not_lt hi)]

end Go.Pg
