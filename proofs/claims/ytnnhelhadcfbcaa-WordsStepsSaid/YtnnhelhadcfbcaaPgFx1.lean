/- Sizes of lines, lines that may be asked, places, changes held against one another. Places behind a place, and ahead of it. What a key does, by the program. Changes are made. What is left of keys. Keys are typed, one by one; the chapter's example. Keys are typed, one by one. The contracts that the laws of typing use. Where words begin and end, by the document: plain. -/
import Derived.Test.YtnnhelhadcfbcaaPgFx0
namespace Go.Pg
open Go Go.Proofs

theorem calls_SPlace (ls : Ls) (a b : Int) (h0 : 0 < ls.length) (hs : small ls) (ha : 0 ≤ a ∧ a < 65536) (hb : 0 ≤ b ∧ b < 65536) :
    CallsR Try.prog 17 [.sl 1 (ls.map .str), .int .u16 a, .int .u16 b] [] (aPos (a % ls.length, b % ((ls.getD (a % ls.length).toNat []).length + 1))) [] := by
  refine callsR_of (mrg := true) (dyn := []) (CtrOK.nil _) mixed Try.func17 rfl (by simp [Try.ntmps17]) (by kernel_rfl) ?_
  rw [show Try.f17.results.toList = [.cell 6 36] from by kernel_rfl]
  simp (maxSteps := 4000000) only [↓wpA_H, ↓wpH_ret, ↓wpH_seq, ↓wpH_region, bselH_false, runH_nil, runH_cons, gw, gselH_plain, ↓chk, justK, noW, ↓oneK, ↓pureK, ↓heapK, envOf, ↓thenA_normal, ↓stepEv, opnd, Pg.look, binK, intOp, Bool.false_eq_true, implies_true, true_and, and_true, valV, heapV, footV, binV, intV, ofV, ofLeaf, retA, resK, tupA, subA, subQ, ptrsE, frzO, subF, subG, pickOf, frzE, frzC, frzL, frz0, frzH, Pg.freeze, List.foldl_nil, subOs, subEv, subV_succ, subM, subL, slen, ldCells, objAt, res_succ, resM, AV.cells, TK.cells, AV.definite, AV.leaf, AV.leafy, putCells, lay, buildL, List.getElem?_cons_succ, List.getElem?_cons_zero, Option.getD_some, reduceCtorEq, Nat.reduceEqDiff, Nat.reduceAdd, List.nil_append, List.append_nil, List.cons_append, List.length_cons, List.length_nil, List.map_cons, List.map_nil, List.set_cons_zero, Nat.zero_add, ite_true, ite_false, Option.some.injEq, Option.isSome_some, AV.int.injEq, AV.agg.injEq, ne_eq, not_false_eq_true, List.all_cons, List.all_nil, Bool.and_self, and_self, exists_eq_left', pickOK_nil, List.length_map, List.contains_nil, getD_str, List.getD_cons_zero, cutL, List.drop_zero, List.drop_succ_cons, List.take_succ_cons, List.take_zero, Nat.sub_zero, Nat.reduceLeDiff, Nat.le_refl, List.drop_nil, List.take_nil, Nat.zero_lt_succ, tk3, tk9, dz9, tk22, tk34, tk36, tz36, dz36, aPos]
  have h1 := hs.1
  have h2 := hs.2 (a % ls.length).toNat
  rw [wrap64 (n := a) (by omega) (by omega), wrap64 (n := b) (by omega) (by omega), Int.tmod_eq_emod_of_nonneg ha.1, wrap64 (by omega) (by omega), Int.tmod_eq_emod_of_nonneg hb.1]
  have h3 := Int.emod_nonneg a (b := ls.length) (by omega)
  have h4 := Int.emod_lt_of_pos a (b := ls.length) (by omega)
  exact ⟨by omega, by omega, by omega, rfl, rfl⟩

def size (ls : Ls) : Int := (ls.map fun s => (s.length : Int) + 1).sum
def total (ls : Ls) : Nat := (ls.map List.length).sum
def light (ls : Ls) : Bool := decide (ls.length ≤ 40) && decide (total ls ≤ 1200) && ls.all fun s => s.all fun b => b != 10
def text (ls : Ls) : Bool := decide (0 < ls.length) && light ls

theorem take_succ_getD {α : Type} (l : List α) (i : Nat) (d : α) (h : i < l.length) : l.take (i + 1) = l.take i ++ [l.getD i d] := by
  rw [List.take_succ_eq_append_getElem h, List.getD_eq_getElem?_getD, List.getElem?_eq_getElem h]; rfl

theorem size_take (ls : Ls) (i : Nat) (h : i < ls.length) : size (ls.take (i + 1)) = size (ls.take i) + ((ls.getD i []).length + 1) := by
  rw [take_succ_getD ls i [] h]; simp [size]
theorem total_take (ls : Ls) (i : Nat) (h : i < ls.length) : total (ls.take (i + 1)) = total (ls.take i) + (ls.getD i []).length := by
  rw [take_succ_getD ls i [] h]; simp [total]
theorem total_take_le (ls : Ls) (i : Nat) : total (ls.take i) ≤ total ls := by
  have h := List.take_append_drop i ls
  have : total ls = total (ls.take i) + total (ls.drop i) := by
    conv => lhs; rw [← h]
    simp only [total, List.map_append, List.sum_append]
  omega
theorem size_le (ls : Ls) (B : Nat) (h : ∀ i, (ls.getD i []).length ≤ B) (i : Nat) (hi : i ≤ ls.length) : 0 ≤ size (ls.take i) ∧ size (ls.take i) ≤ i * (B + 1) := by
  induction i with
  | zero => simp [size]
  | succ i ih =>
    have h1 := ih (by omega)
    have h2 := h i
    rw [size_take ls i (by omega), Int.natCast_add, Int.add_mul]
    omega

/-- Not too many lines, and none of them long. -/
def few (ls : Ls) : Prop := ls.length ≤ 1048576 ∧ ∀ i, (ls.getD i []).length ≤ 1048576

theorem not_light (ls : Ls) (i : Nat) (h : 1200 < total (ls.take i)) : light ls = false := by
  have := total_take_le ls i
  simp only [light, Bool.and_eq_false_imp, Bool.and_eq_true, decide_eq_true_eq]
  omega
theorem not_light_at (ls : Ls) (i k : Nat) (hi : i < ls.length) (hk : k < (ls.getD i []).length) (h : (ls.getD i []).getD k 0 = 10) : light ls = false := by
  rw [Bool.eq_false_iff]
  intro hl
  simp only [light, Bool.and_eq_true, List.all_eq_true] at hl
  have h1 := hl.2 (ls.getD i []) (by rw [List.getD_eq_getElem?_getD, List.getElem?_eq_getElem hi]; simp) ((ls.getD i []).getD k 0) (by
    generalize ls.getD i [] = s at hk
    rw [List.getD_eq_getElem?_getD, List.getElem?_eq_getElem hk]; simp)
  rw [h] at h1
  cases h1

theorem calls_Light (ls : Ls) (hs : ∀ i, (ls.getD i []).length ≤ 140737488355328) : CallsR Try.prog 9 [.sl 1 (ls.map .str)] [] (.bool (light ls)) [] := by
  refine callsR_of (mrg := true) (dyn := []) (CtrOK.nil _) mixed Try.func9 rfl (by simp [Try.ntmps9]) (by kernel_rfl) ?_
  rw [show Try.f9.results.toList = [.tmp 2] from by kernel_rfl]
  simp (maxSteps := 4000000) only [↓wpA_H, ↓wpH_skip, ↓wpH_ret, ↓wpH_seq, ↓wpH_cond, ↓wpH_block, ↓wpH_loop, ↓wpH_region, iselH_if, bselH_false, runH_nil, runH_cons, gw, gselH_plain, cselH_bool, ↓chk, justK, ↓oneK, ↓pureK, envOf, ↓thenA_normal, ↓thenA_ret, ↓stepEv, opnd, Pg.look, binK, intOp, Bool.false_eq_true, implies_true, true_and, and_true, valV, heapV, footV, binV, intV, ofV, ofLeaf, retA, resK, tupA, subA, subQ, ptrsE, frzO, subF, subG, pickOf, frzE, frzC, frz0, frzH, Pg.freeze, List.foldl_nil, subOs, subEv, subV_succ, subM, slen, Option.getD_some, reduceCtorEq, Nat.reduceEqDiff, List.append_nil, List.length_nil, ite_true, ite_false, Option.some.injEq, AV.int.injEq, decide_eq_true_eq, decide_eq_false_iff_not, Int.not_lt, and_self, exists_eq_left', pickOK_nil, List.length_map, List.contains_nil, tk22]
  refine ⟨fun h => ?_, fun h0 => ?_⟩
  · symm
    simp only [light, Bool.and_eq_false_imp, Bool.and_eq_true, decide_eq_true_eq]
    omega
  refine loopH_intro (α := Nat) (fun i => ([(0, .sl 1 (ls.map .str)), (2, .bool false), (3, .int .i64 (total (ls.take i))), (4, .int .i64 i)], [])) (fun i => i ≤ ls.length ∧ total (ls.take i) ≤ 1200 ∧ (ls.take i).all (fun s => s.all fun b => b != 10)) (fun i => ls.length - i) 0 ?_ ?_ ?_
  · simp [total]
  · simp (maxSteps := 4000000) only [Pg.look, true_and, and_true, subA, subQ, ptrsE, frzO, subF, subG, pickOf, frzE, frzC, frz0, frzH, Pg.freeze, List.foldl_nil, subOs, subEv, subV_succ, subM, reduceCtorEq, Nat.reduceEqDiff, List.append_nil, ite_true, ite_false, and_self, pickOK_nil, Int.cast_ofNat_Int, List.take_zero]
    all_goals simp [total]
  · intro i hi
    simp (maxSteps := 4000000) only [↓wpA_H, ↓wpH_skip, ↓wpH_ret, ↓wpH_exit, ↓wpH_seq, ↓wpH_cond, ↓wpH_block, ↓wpH_loop, ↓wpH_region, iselH_if, bselH_false, runH_nil, runH_cons, gw, gselH_plain, cselH_bool, ↓chk, justK, noW, ↓oneK, ↓pureK, ↓heapK, ↓thenA_normal, ↓thenA_ret, ↓thenA_exit, ↓blockA_ret, ↓blockA_exit, ↓stepEv, opnd, Pg.look, binK, intOp, Bool.false_eq_true, implies_true, true_and, and_true, valV, heapV, footV, binV, intV, ofV, ofLeaf, retA, resK, tupA, subA, subQ, ptrsE, frzO, subF, subG, pickOf, frzE, frzC, frz0, frzH, Pg.freeze, List.foldl_nil, subOs, subEv, subV_succ, subM, slen, ldCells, AV.cells, TK.cells, List.getElem?_cons_zero, Option.getD_some, reduceCtorEq, Nat.reduceEqDiff, List.append_nil, List.length_nil, ite_true, ite_false, Option.some.injEq, AV.int.injEq, decide_eq_true_eq, decide_eq_false_iff_not, Int.not_lt, and_self, exists_eq_left', pickOK_nil, List.length_map, List.contains_nil, getD_str, Int.toNat_natCast, tk9, dz9, tk22]
    have h3 := hs i
    have h4 := total_take ls i
    refine ⟨fun h => ⟨by omega, fun h2 => ?_, fun h2 => ?_⟩, fun h => ?_⟩
    · rw [wrap64 (by omega) (by omega)] at h2
      symm
      exact not_light ls (i + 1) (by omega)
    · rw [wrap64 (by omega) (by omega)] at h2
      refine loopH_intro (α := Nat) (fun k => ([(0, .sl 1 (ls.map .str)), (2, .bool false), (3, .int .i64 (total (ls.take (i + 1)))), (4, .int .i64 i), (5, .int .i64 k)], [])) (fun k => k ≤ (ls.getD i []).length ∧ ((ls.getD i []).take k).all (fun b => b != 10)) (fun k => (ls.getD i []).length - k) 0 ?_ ?_ ?_
      · simp
      · simp (maxSteps := 4000000) only [Pg.look, true_and, and_true, subA, subQ, ptrsE, frzO, subF, subG, pickOf, frzE, frzC, frz0, frzH, Pg.freeze, List.foldl_nil, subOs, subEv, subV_succ, subM, reduceCtorEq, Nat.reduceEqDiff, List.append_nil, ite_true, ite_false, and_self, pickOK_nil, Int.cast_ofNat_Int]
        rw [wrap64 (by omega) (by omega)]
        omega
      · intro k hk
        simp (maxSteps := 4000000) only [↓wpA_H, ↓wpH_skip, ↓wpH_ret, ↓wpH_exit, ↓wpH_seq, ↓wpH_cond, ↓wpH_block, ↓wpH_region, iselH_if, bselH_false, runH_nil, runH_cons, gw, gselH_plain, cselH_bool, ↓chk, justK, noW, ↓oneK, ↓pureK, ↓heapK, ↓thenA_normal, ↓thenA_ret, ↓thenA_exit, ↓blockA_normal, ↓blockA_ret, ↓blockA_exit, ↓stepEv, opnd, Pg.look, binK, intOp, Bool.false_eq_true, implies_true, true_and, and_true, valV, heapV, footV, binV, intV, ofV, ofLeaf, retA, resK, tupA, subA, subQ, ptrsE, frzO, subF, subG, pickOf, frzE, frzC, frz0, frzH, Pg.freeze, List.foldl_nil, subOs, subEv, subV_succ, subM, ldCells, AV.cells, TK.cells, List.getElem?_cons_zero, Option.getD_some, reduceCtorEq, Nat.reduceEqDiff, List.append_nil, List.length_nil, ite_true, ite_false, Option.some.injEq, decide_eq_true_eq, decide_eq_false_iff_not, Int.not_lt, and_self, exists_eq_left', pickOK_nil, List.length_map, List.contains_nil, getD_str, Int.toNat_natCast, tk9, dz9, tk22]
        refine ⟨by omega, fun h5 => ⟨by omega, by omega, fun h6 => ?_, fun h6 => ⟨k + 1, ⟨by omega, ?_⟩, by omega, by rw [wrap64 (by omega) (by omega)]; omega⟩⟩, fun h5 => ⟨i + 1, ⟨by omega, by omega, ?_⟩, by omega, rfl, by rw [wrap64 (by omega) (by omega)]; omega⟩⟩
        · symm
          refine not_light_at ls i k (by omega) (by omega) ?_
          have h7 : ((ls.getD i []).getD k 0).toNat = 10 := by have := eq_of_beq h6; omega
          exact UInt8.toNat_inj.1 h7
        · rw [take_succ_getD _ k 0 (by omega), List.all_append, hk.2]
          simp only [List.all_cons, List.all_nil, Bool.and_true, Bool.true_and, bne_iff_ne, ne_eq]
          intro h7
          rw [h7] at h6
          exact absurd h6 (by decide)
        · have h8 : k = (ls.getD i []).length := by omega
          have h9 := hk.2
          rw [h8, List.take_length] at h9
          rw [take_succ_getD _ i [] (by omega), List.all_append, hi.2.2]
          simp only [List.all_cons, List.all_nil, h9, Bool.and_self]
    · have : i = ls.length := by omega
      subst this
      rw [List.take_length] at hi
      symm
      have h1 : ls.length ≤ 40 := by omega
      simp [light, hi, h1]

def kLight : C1 := C1.by [.sl 1 []] (lOne cStrs) (fun d => ∀ i, (d.getD i []).length ≤ 140737488355328) (fun d => .bool (light d)) (fun _ => [])
theorem ok_Light : C1OK Try.prog 9 kLight := C1OK.by (by kernel_rfl) (fun d h => calls_Light d h) (fun _ => rfl) (fun _ => rfl)

theorem calls_Text (ls : Ls) (hs : ∀ i, (ls.getD i []).length ≤ 140737488355328) : CallsR Try.prog 16 [.sl 1 (ls.map .str)] [] (.bool (text ls)) [] := by
  refine callsR_of (mrg := true) (dyn := []) (CtrOK.cons ok_Light (CtrOK.nil _)) mixed Try.func16 rfl (by simp [Try.ntmps16]) (by kernel_rfl) ?_
  rw [show Try.f16.results.toList = [.tmp 2] from by kernel_rfl]
  simp (maxSteps := 4000000) only [↓wpA_H, ↓wpH_ret, ↓wpH_seq, ↓wpH_region, bselH_false, runH_nil, runH_cons, gw, gselH_plain, gselH_if, kselH_1, gkind, ↓chk, justK, ↓oneK, ↓pureK, envOf, ↓thenA_normal, ↓stepEv, opnd, Pg.look, binK, intOp, dstOf, Bool.false_eq_true, implies_true, imp_self, true_and, and_true, pickC, pickV, unc, gof, mux, mergeK, condsL, valV, heapV, footV, binV, intV, mergeable, look_stripE, ofV, ofLeaf, sameK, retA, resK, tupA, subA, subQ, ptrsE, frzO, subF, subG, pickOf, frzE, frzC, frz0, frzH, Pg.freeze, List.foldl_nil, subOs, subEv, subV_succ, subM, slen, ↓callT, callC, callV, normArgs, normA, normC, resL, res8_eq, res_succ, resM, shiftR, shift1, Op.operands, Call.operands, Array.toList_append, List.getElem?_toArray, List.getElem?_cons_succ, List.getElem?_cons_zero, Option.bind_some, Option.getD_some, reduceCtorEq, Nat.reduceEqDiff, List.nil_append, List.append_nil, List.cons_append, List.length_nil, List.map_cons, List.map_nil, ite_true, ite_false, Option.some.injEq, AV.int.injEq, Bool.if_false_right, decide_eq_true_eq, decide_eq_false_iff_not, Int.not_lt, Bool.and_self, and_self, exists_eq_left', pickOK_nil, List.length_map, List.toList_toArray, cSl_dec, lOne_dec, List.contains_nil, List.range'_zero, decL_str, C1by_ns, C1by_pre, C1by_r, C1by_H, optP_some, optV_some, optH_some, C1by_it, tk22, kLight]
  refine ⟨fun h => ⟨h, hs⟩, ?_⟩
  rw [text]
  congr 1
  by_cases h : 0 < ls.length <;> simp [h]

def kText : C1 := C1.by [.sl 1 []] (lOne cStrs) (fun d => ∀ i, (d.getD i []).length ≤ 140737488355328) (fun d => .bool (text d)) (fun _ => [])
theorem ok_Text : C1OK Try.prog 16 kText := C1OK.by (by kernel_rfl) (fun d h => calls_Text d h) (fun _ => rfl) (fun _ => rfl)

/-- What lines that may be asked are. -/
theorem few_of_text {ls : Ls} (h : text ls = true) : 0 < ls.length ∧ ls.length ≤ 40 ∧ (∀ i, (ls.getD i []).length ≤ 1200) := by
  simp only [text, light, Bool.and_eq_true, decide_eq_true_eq] at h
  refine ⟨h.1, h.2.1.1, fun i => ?_⟩
  by_cases hi : i < ls.length
  · have h1 := total_take ls i hi
    have h2 := total_take_le ls (i + 1)
    omega
  · simp [List.getD_eq_getElem?_getD, List.getElem?_eq_none (Nat.le_of_not_lt hi)]

end Go.Pg
namespace Go.Pg
open Go Go.Proofs

def isBehind (p : Int × Int) (same : Bool) (q : Int × Int) : Bool := less p q || (same && (q.1 == p.1 && q.2 == p.2))
def behind (l : List (Int × Int)) (p : Int × Int) (same : Bool) : List (Int × Int) := l.filter (isBehind p same)
def ahead (l : List (Int × Int)) (p : Int × Int) : List (Int × Int) := l.reverse.filter (fun q => less q p)

theorem filter_take {α : Type} (g : α → Bool) (l : List α) (i : Nat) (d : α) (h : i < l.length) : (l.take (i + 1)).filter g = if g (l.getD i d) = true then (l.take i).filter g ++ [l.getD i d] else (l.take i).filter g := by
  rw [take_succ_getD l i d h, List.filter_append]
  generalize l.getD i d = y
  split
  · next h => simp [h]
  · next h => simp [h]

theorem pureB_posL (l : List (Int × Int)) : (l.map aPos).all AV.pureB = true := by simp [aPos, AV.pureB, AV.cells, AV.pureLeaf]
theorem leafy_posL (l : List (Int × Int)) : (l.map aPos).all AV.leafy = true := by simp [aPos, AV.leafy, AV.cells, AV.leaf]
theorem app1_pos (l : List (Int × Int)) (q : Int × Int) : l.map aPos ++ [.agg [.int .i64 q.1, .int .i64 q.2]] = (l ++ [q]).map aPos := by simp [aPos]

set_option maxHeartbeats 4000000 in
theorem calls_behind (l : List (Int × Int)) (p : Int × Int) (same : Bool) (hb : l.length ≤ 1099511627776) : CallsR Try.prog 39 [.sl 2 (l.map aPos), aPos p, .bool same] [] (.sl 2 ((behind l p same).map aPos)) [] := by
  obtain ⟨p1, p2⟩ := p
  refine callsR_of (mrg := true) (dyn := []) (CtrOK.cons ok_RLess (CtrOK.nil _)) mixed Try.func39 rfl (by simp [Try.ntmps39]) (by kernel_rfl) ?_
  rw [show Try.f39.results.toList = [.tmp 6] from by kernel_rfl]
  simp (maxSteps := 4000000) only [↓wpA_H, ↓wpH_seq, ↓wpH_block, ↓wpH_loop, ↓wpH_region, bselH_false, runH_nil, runH_cons, gw, gselH_plain, ↓chk, justK, noW, ↓oneK, ↓pureK, ↓heapK, envOf, ↓thenA_normal, ↓stepEv, opnd, Pg.look, Bool.false_eq_true, implies_true, true_and, valV, heapV, footV, ofV, ofLeaf, AV.cells, AV.definite, reduceCtorEq, Nat.reduceEqDiff, Nat.reduceAdd, List.nil_append, List.length_cons, List.length_nil, Nat.zero_add, ite_true, ite_false, and_self, List.contains_nil, aPos, kLess]
  refine loopH_intro (α := Nat × List (Int × Int)) (fun x => ([(0, .sl 2 (l.map aPos)), (2, .bool same), (4, .ptr 0 2 1 0 0), (6, .nls), (7, .own 1 2 x.2.length), (8, .int .i64 x.1)], [.arr 36 2 [.agg [.int .i64 p1, .int .i64 p2]], .arr 36 2 (x.2.map aPos)]))
    (fun x => x.1 ≤ l.length ∧ x.2 = (l.take x.1).filter (isBehind (p1, p2) same)) (fun x => l.length - x.1) (0, []) ⟨by simp, by simp⟩ ?_ ?_
  · simp (maxSteps := 4000000) only [Pg.look, true_and, and_true, subA, subQ, ptrsE, pairsO, frzO, subF, subG, pickOf, assocN, pairsE, pairsC, pairsL, pairs0, frzE, frzC, frzL, frz0, frzH, Pg.freeze, List.foldl_nil, subOs, subO, subEv, subV_succ, subM, List.getElem?_cons_succ, List.getElem?_cons_zero, reduceCtorEq, Nat.reduceEqDiff, List.nil_append, List.append_nil, List.cons_append, List.length_nil, List.map_nil, Nat.zero_add, ite_true, ite_false, and_self, Int.cast_ofNat_Int, Nat.lt_irrefl, Nat.not_lt_zero]
    exact ⟨rfl, subX_eq rfl rfl⟩
  · intro x hx
    obtain ⟨i, out⟩ := x
    simp only at hx
    obtain ⟨hx1, hx2⟩ := hx
    have hol : out.length ≤ i := by rw [hx2]; exact Nat.le_trans (List.length_filter_le _ _) (by rw [List.length_take]; omega)
    by_cases hi : i < l.length
    · have hct : decide ((i : Int) < (l.length : Int)) = true := decide_eq_true (by omega)
      have hf := filter_take (isBehind (p1, p2) same) l i (0, 0) hi
      simp (maxSteps := 4000000) only [↓wpA_H, ↓wpH_skip, ↓wpH_seq, ↓wpH_cond, ↓wpH_block, ↓wpH_region, ↓iselH_true, iselH_if, bselH_false, runH_nil, runH_cons, gw, gselH_plain, gselH_if, kselH_0, kselH_1, cselH_bool, gkind, ↓chk, pickO, justK, noW, ↓oneK, ↓pureK, ↓heapK, ↓thenA_normal, ↓blockA_normal, ↓stepEv, opnd, Pg.look, binK, intOp, cellsEq, leafEq, dstOf, Bool.and_true, Bool.false_eq_true, implies_true, imp_self, true_and, and_true, pickC, pickV, unc, gof, mux, mergeK, condsL, valV, heapV, footV, binV, intV, mergeable, look_stripE, ofV, ofLeaf, sameK, subA, subQ, ptrsE, pairsO, frzO, subF, subG, pickOf, assocN, pairsE, pairsC, pairsL, pairs0, frzE, frzC, frzL, frz0, frzH, Pg.freeze, List.foldl_nil, subOs, subO, subEv, subV_succ, subM, slen, srcV, srcE, appK, ldCells, objAt, ↓callT, callC, callV, callH, normArgs, normA, resL, res8_eq, res_succ, resM, shiftR, shift1, AV.cells, TK.cells, AV.definite, AV.leaf, AV.leafy, Op.operands, List.getElem?_toArray, List.getElem?_cons_succ, List.getElem?_cons_zero, Option.bind_some, Option.getD_some, reduceCtorEq, Nat.reduceEqDiff, Nat.reduceAdd, List.nil_append, List.append_nil, List.cons_append, List.length_cons, List.length_nil, List.map_cons, List.map_nil, List.set_cons_zero, List.set_cons_succ, Nat.zero_add, ite_true, ite_false, Option.some.injEq, Option.isSome_some, AV.int.injEq, Bool.if_false_right, Bool.if_true_left, Bool.decide_eq_true, List.all_cons, List.all_nil, Bool.and_self, and_self, Bool.not_eq_true', exists_eq_left', List.length_map, cInt_dec, List.toList_toArray, rg1, cAgg_dec, lOne_dec, lCons_dec, dec2_some, List.contains_nil, beq_self_eq_true, List.range'_zero, Nat.reducePow, C1by_ns, C1by_pre, C1by_r, C1by_H, optP_some, optV_some, optH_some, Int.toNat_natCast, List.getD_cons_zero, cutL, List.drop_zero, List.take_succ_cons, Nat.sub_zero, Nat.reduceLeDiff, Nat.le_refl, Nat.lt_irrefl, Nat.one_mul, List.take_nil, Nat.not_lt_zero, Nat.zero_lt_succ, C1by_it, tk25, tk36, dz36, eb36, eq36, aPos, kLess, getD_pos, app1_pos, hct]
      refine ⟨by omega, fun h => ⟨h, by omega, by omega⟩, fun h => ⟨h, fun h2 => by rw [h, h2]; rfl⟩, fun h => ?_, fun h => ?_⟩
      · rw [if_pos (show isBehind (p1, p2) same (l.getD i (0, 0)) = true from h)] at hf
        exact ⟨by omega, ⟨by decide, by omega⟩, (i + 1, out ++ [l.getD i (0, 0)]), ⟨by show i + 1 ≤ _; omega, by rw [hf, hx2]⟩, by show _ - (i + 1) < _; omega, rfl, ⟨subX_eq rfl rfl, subX_eq rfl (pureB_posL _)⟩, by simp, by rw [wrap64 (by omega) (by omega)]; rfl⟩
      · rw [if_neg (show ¬ isBehind (p1, p2) same (l.getD i (0, 0)) = true from by rw [Bool.not_eq_true]; exact h)] at hf
        exact ⟨(i + 1, out), ⟨by show i + 1 ≤ _; omega, by rw [hf, hx2]⟩, by show _ - (i + 1) < _; omega, rfl, ⟨subX_eq rfl rfl, subX_eq rfl (pureB_posL _)⟩, rfl, by rw [wrap64 (by omega) (by omega)]; rfl⟩
    · have hcf : decide ((i : Int) < (l.length : Int)) = false := decide_eq_false (by omega)
      simp (maxSteps := 4000000) only [↓wpA_H, ↓wpH_ret, ↓wpH_exit, ↓wpH_seq, ↓wpH_cond, ↓wpH_region, ↓iselH_false, bselH_false, runH_nil, runH_cons, gw, gselH_plain, cselH_bool, ↓chk, justK, ↓oneK, ↓pureK, ↓thenA_normal, ↓thenA_exit, ↓blockA_exit, ↓stepEv, opnd, Pg.look, binK, intOp, Bool.false_eq_true, implies_true, true_and, and_true, valV, heapV, footV, binV, intV, retA, resK, tupA, subA, subQ, ptrsE, frzO, subF, subG, pickOf, frzE, frzC, frz0, frzH, Pg.freeze, List.foldl_nil, List.foldl_cons, subOs, subEv, subV_succ, subM, slen, objAt, res_succ, resM, frzAt, List.getElem?_cons_succ, List.getElem?_cons_zero, Option.getD_some, reduceCtorEq, Nat.reduceEqDiff, List.append_nil, List.length_nil, List.set_cons_zero, List.set_cons_succ, ite_true, ite_false, Option.some.injEq, AV.int.injEq, AV.sl.injEq, List.all_cons, List.all_nil, Bool.and_self, and_self, exists_eq_left', pickOK_nil, List.length_map, resIn, List.contains_cons, List.contains_nil, Bool.or_false, beq_self_eq_true, tk25, kLess, pureB_posL, hcf]
      rw [hx2, List.take_of_length_le (by omega)]
      rfl

theorem getD_rev (l : List (Int × Int)) (k : Nat) (d : Int × Int) (h : k < l.length) : l.reverse.getD k d = l.getD (l.length - 1 - k) d := by
  rw [List.getD_eq_getElem?_getD, List.getElem?_reverse h, ← List.getD_eq_getElem?_getD]

set_option maxHeartbeats 4000000 in
theorem calls_ahead (l : List (Int × Int)) (p : Int × Int) (hb : l.length ≤ 1099511627776) : CallsR Try.prog 43 [.sl 2 (l.map aPos), aPos p] [] (.sl 2 ((ahead l p).map aPos)) [] := by
  obtain ⟨p1, p2⟩ := p
  refine callsR_of (mrg := true) (dyn := []) (CtrOK.cons ok_RLess (CtrOK.nil _)) mixed Try.func43 rfl (by simp [Try.ntmps43]) (by kernel_rfl) ?_
  rw [show Try.f43.results.toList = [.tmp 4] from by kernel_rfl]
  simp (maxSteps := 4000000) only [↓wpA_H, ↓wpH_seq, ↓wpH_block, ↓wpH_loop, ↓wpH_region, bselH_false, runH_nil, runH_cons, gw, gselH_plain, ↓chk, justK, noW, ↓oneK, ↓pureK, ↓heapK, envOf, ↓thenA_normal, ↓stepEv, opnd, Pg.look, binK, intOp, Bool.false_eq_true, implies_true, true_and, and_true, valV, heapV, footV, binV, intV, ofV, ofLeaf, slen, AV.cells, AV.definite, Option.getD_some, reduceCtorEq, Nat.reduceEqDiff, Nat.reduceAdd, List.nil_append, List.length_cons, List.length_nil, Nat.zero_add, ite_true, ite_false, Option.some.injEq, AV.int.injEq, and_self, exists_eq_left', List.length_map, List.contains_nil, tk25, aPos, kLess]
  have w0 : IntKind.i64.wrap ((l.length : Int) - 1) = (l.length : Int) - 1 := wrap64 (by omega) (by omega)
  rw [w0]
  refine loopH_intro (α := Nat × List (Int × Int)) (fun x => ([(0, .sl 2 (l.map aPos)), (3, .ptr 0 2 1 0 0), (4, .nls), (5, .own 1 2 x.2.length), (6, .int .i64 ((l.length : Int) - 1 - x.1))], [.arr 36 2 [.agg [.int .i64 p1, .int .i64 p2]], .arr 36 2 (x.2.map aPos)]))
    (fun x => x.1 ≤ l.length ∧ x.2 = (l.reverse.take x.1).filter (fun q => less q (p1, p2))) (fun x => l.length - x.1) (0, []) ⟨by simp, by simp⟩ ?_ ?_
  · simp (maxSteps := 4000000) only [Pg.look, true_and, and_true, subA, subQ, ptrsE, pairsO, frzO, subF, subG, pickOf, assocN, pairsE, pairsC, pairsL, pairs0, frzE, frzC, frzL, frz0, frzH, Pg.freeze, List.foldl_nil, subOs, subO, subEv, subV_succ, subM, List.getElem?_cons_succ, List.getElem?_cons_zero, reduceCtorEq, Nat.reduceEqDiff, List.nil_append, List.append_nil, List.cons_append, List.length_nil, List.map_nil, Nat.zero_add, ite_true, ite_false, and_self, Int.cast_ofNat_Int, Nat.lt_irrefl, Nat.not_lt_zero]
    exact ⟨rfl, subX_eq rfl rfl, by omega⟩
  · intro x hx
    obtain ⟨i, out⟩ := x
    simp only at hx
    obtain ⟨hx1, hx2⟩ := hx
    have hol : out.length ≤ i := by rw [hx2]; exact Nat.le_trans (List.length_filter_le _ _) (by rw [List.length_take]; omega)
    by_cases hi : i < l.length
    · have hct : decide ((l.length : Int) - 1 - (i : Int) ≥ 0) = true := decide_eq_true (by omega)
      have hf := filter_take (fun q => less q (p1, p2)) l.reverse i (0, 0) (by simpa using hi)
      rw [getD_rev l i (0, 0) hi] at hf
      have htn : ((l.length : Int) - 1 - (i : Int)).toNat = l.length - 1 - i := by omega
      simp (maxSteps := 4000000) only [↓wpA_H, ↓wpH_skip, ↓wpH_seq, ↓wpH_cond, ↓wpH_block, ↓wpH_region, ↓iselH_true, iselH_if, bselH_false, runH_nil, runH_cons, gw, gselH_plain, cselH_bool, ↓chk, justK, noW, ↓oneK, ↓pureK, ↓heapK, ↓thenA_normal, ↓blockA_normal, ↓stepEv, opnd, Pg.look, binK, intOp, Bool.false_eq_true, implies_true, true_and, and_true, valV, heapV, footV, binV, intV, ofV, ofLeaf, subA, subQ, ptrsE, pairsO, frzO, subF, subG, pickOf, assocN, pairsE, pairsC, pairsL, pairs0, frzE, frzC, frzL, frz0, frzH, Pg.freeze, List.foldl_nil, subOs, subO, subEv, subV_succ, subM, srcV, srcE, appK, ldCells, objAt, ↓callT, callC, callV, callH, normArgs, normA, resL, res8_eq, res_succ, resM, shiftR, shift1, AV.cells, TK.cells, AV.definite, AV.leaf, AV.leafy, List.getElem?_cons_succ, List.getElem?_cons_zero, Option.getD_some, reduceCtorEq, Nat.reduceEqDiff, Nat.reduceAdd, List.nil_append, List.append_nil, List.cons_append, List.length_cons, List.length_nil, List.map_cons, List.map_nil, List.set_cons_zero, List.set_cons_succ, Nat.zero_add, ite_true, ite_false, Option.some.injEq, Option.isSome_some, List.all_cons, List.all_nil, Bool.and_self, and_self, exists_eq_left', List.length_map, cInt_dec, rg1, cAgg_dec, lOne_dec, lCons_dec, dec2_some, List.contains_nil, beq_self_eq_true, List.range'_zero, Nat.reducePow, C1by_ns, C1by_pre, C1by_r, C1by_H, optP_some, optV_some, optH_some, List.getD_cons_zero, cutL, List.drop_zero, List.take_succ_cons, Nat.sub_zero, Nat.reduceLeDiff, Nat.le_refl, Nat.lt_irrefl, Nat.one_mul, List.take_nil, Nat.not_lt_zero, Nat.zero_lt_succ, C1by_it, tk25, tk36, dz36, eb36, aPos, kLess, getD_pos, app1_pos, hct, htn]
      refine ⟨by omega, fun h => ?_, fun h => ?_⟩
      · rw [if_pos (show less (l.getD (l.length - 1 - i) (0, 0)) (p1, p2) = true from h)] at hf
        exact ⟨by omega, ⟨by decide, by omega⟩, (i + 1, out ++ [l.getD (l.length - 1 - i) (0, 0)]), ⟨by show i + 1 ≤ _; omega, by rw [hf, hx2]⟩, by show _ - (i + 1) < _; omega, rfl, ⟨subX_eq rfl rfl, subX_eq rfl (pureB_posL _)⟩, by simp, by rw [wrap64 (by omega) (by omega)]; show (l.length : Int) - 1 - i - 1 = (l.length : Int) - 1 - ((i + 1 : Nat) : Int); omega⟩
      · rw [if_neg (show ¬ less (l.getD (l.length - 1 - i) (0, 0)) (p1, p2) = true from by rw [Bool.not_eq_true]; exact h)] at hf
        exact ⟨(i + 1, out), ⟨by show i + 1 ≤ _; omega, by rw [hf, hx2]⟩, by show _ - (i + 1) < _; omega, rfl, ⟨subX_eq rfl rfl, subX_eq rfl (pureB_posL _)⟩, rfl, by rw [wrap64 (by omega) (by omega)]; show (l.length : Int) - 1 - i - 1 = (l.length : Int) - 1 - ((i + 1 : Nat) : Int); omega⟩
    · have hcf : decide ((l.length : Int) - 1 - (i : Int) ≥ 0) = false := decide_eq_false (by omega)
      simp (maxSteps := 4000000) only [↓wpA_H, ↓wpH_ret, ↓wpH_exit, ↓wpH_seq, ↓wpH_cond, ↓wpH_region, ↓iselH_false, bselH_false, runH_nil, runH_cons, gw, gselH_plain, cselH_bool, ↓chk, justK, ↓oneK, ↓pureK, ↓thenA_normal, ↓thenA_exit, ↓blockA_exit, ↓stepEv, opnd, Pg.look, binK, intOp, Bool.false_eq_true, implies_true, true_and, and_true, valV, heapV, footV, binV, intV, ofV, ofLeaf, retA, resK, tupA, subA, subQ, ptrsE, frzO, subF, subG, pickOf, frzE, frzC, frz0, frzH, Pg.freeze, List.foldl_nil, List.foldl_cons, subOs, subEv, subV_succ, subM, objAt, res_succ, resM, frzAt, List.getElem?_cons_succ, List.getElem?_cons_zero, reduceCtorEq, Nat.reduceEqDiff, List.append_nil, List.length_nil, List.set_cons_zero, List.set_cons_succ, ite_true, ite_false, AV.sl.injEq, List.all_cons, List.all_nil, Bool.and_self, and_self, pickOK_nil, List.length_map, resIn, List.contains_cons, List.contains_nil, Bool.or_false, beq_self_eq_true, kLess, pureB_posL, hcf]
      rw [hx2, List.take_of_length_le (by simp; omega)]
      rfl
end Go.Pg
namespace Go.Pg
open Go Go.Proofs

theorem write_one (ls : Ls) (l c : Int) (s : List UInt8) (h : place ls l c = true) :
    write ls l c [s] = ((l, [ls.getD l.toNat []], [(ls.getD l.toNat []).take c.toNat ++ s ++ (ls.getD l.toNat []).drop c.toNat]), (l, c + s.length), true) := by
  have e : write ls l c [s] = _ := if_pos (by rw [h]; rfl)
  obtain ⟨a1, a2, a3, a4⟩ := (place_iff ..).1 h
  rw [e]
  show ((l, _, [((ls.getD l.toNat []).take c.toNat ++ s) ++ (ls.getD l.toNat []).drop c.toNat]), ((l + ((0 : Nat) : Int)), (((ls.getD l.toNat []).take c.toNat ++ s).length : Int)), true) = _
  have h1 : (((ls.getD l.toNat []).take c.toNat ++ s).length : Int) = c + s.length := by
    simp only [List.length_append, List.length_take]; omega
  have h2 : l + ((0 : Nat) : Int) = l := by omega
  rw [h1, h2]

theorem write_two (ls : Ls) (l c : Int) (h : place ls l c = true) :
    write ls l c [[], []] = ((l, [ls.getD l.toNat []], [(ls.getD l.toNat []).take c.toNat, (ls.getD l.toNat []).drop c.toNat]), (l + 1, 0), true) := by
  have e : write ls l c [[], []] = _ := if_pos (by rw [h]; rfl)
  rw [e]
  show ((l, _, [(ls.getD l.toNat []).take c.toNat ++ [], [] ++ (ls.getD l.toNat []).drop c.toNat]), ((l + ((1 : Nat) : Int)), ((0 : Nat) : Int)), true) = _
  rw [List.append_nil, List.nil_append]
  rfl

theorem small_two (a b : List UInt8) (ha : a.length ≤ 1099511627776) (hb : b.length ≤ 1099511627776) : small [a, b] := by
  refine ⟨by simp, fun i => ?_⟩
  match i with
  | 0 => exact ha
  | 1 => exact hb
  | i + 2 => simp
theorem small_one (a : List UInt8) (ha : a.length ≤ 1099511627776) : small [a] := by
  refine ⟨by simp, fun i => ?_⟩
  match i with
  | 0 => exact ha
  | i + 1 => simp

end Go.Pg
namespace Go.Pg
open Go Go.Proofs

abbrev Ch := Int × Ls × Ls

/-- One change is made. -/
def apply1 (ls : Ls) (x : Ch) : Ls × Bool :=
  if decide (x.1 < 0) || decide (x.1 > ls.length) || decide ((x.2.1.length : Int) > ls.length - x.1) || !(cutL ls x.1.toNat (x.1 + x.2.1.length).toNat == x.2.1) || ((ls.length : Int) - x.2.1.length + x.2.2.length == 0) then ([], false)
  else (ls.take x.1.toNat ++ x.2.2 ++ ls.drop (x.1.toNat + x.2.1.length), true)

def kOne : C1 := C1.by [.sl 1 [], .ag [none, some 1, some 1]] (lCons cStrs (lOne (cAgg (lCons (cInt .i64) (lCons cStrs (lOne cStrs))))))
  (fun d => d.1.length ≤ 2199023255552 ∧ d.2.2.1.length ≤ 2199023255552 ∧ d.2.2.2.length ≤ 2199023255552)
  (fun d => .tuple [.sl 1 ((apply1 d.1 d.2).1.map .str), .bool (apply1 d.1 d.2).2]) (fun _ => [])
/-- Changes are made, one behind another. -/
def applyL (ls : Ls) : List Ch → Ls × Bool
  | [] => (ls, true)
  | c :: r => if (apply1 ls c).2 = true then applyL (apply1 ls c).1 r else ([], false)

theorem apply1_len (ls : Ls) (x : Ch) : (apply1 ls x).1.length ≤ ls.length + x.2.2.length := by
  unfold apply1
  split
  · simp
  · simp only [List.length_append, List.length_take, List.length_drop]; omega

def kApply : C1 := C1.by [.sl 1 [], .sl 3 [none, some 1, some 1]] (lCons cStrs (lOne (cSl 3 (cAgg (lCons (cInt .i64) (lCons cStrs (lOne cStrs)))))))
  (fun d => d.1.length ≤ 1048576 ∧ d.2.length ≤ 1048576 ∧ ∀ x ∈ d.2, x.2.1.length ≤ 1048576 ∧ x.2.2.length ≤ 1048576)
  (fun d => .tuple [.sl 1 ((applyL d.1 d.2).1.map .str), .bool (applyL d.1 d.2).2]) (fun _ => [])
end Go.Pg
namespace Go.Pg
open Go Go.Proofs

def netStep (out : List UInt8) (k : UInt8) : List UInt8 :=
  if (letter k.toNat || k.toNat == (13 : Int) || k.toNat == (10 : Int)) = true then out ++ [k]
  else if ((k.toNat == (8 : Int) || k.toNat == (127 : Int)) && decide (0 < out.length) && letter (out.getD (out.length - 1) 0).toNat) = true then out.take (out.length - 1)
  else out
def net (keys : List UInt8) : List UInt8 := keys.foldl netStep []

theorem netStep_len (out : List UInt8) (k : UInt8) : (netStep out k).length ≤ out.length + 1 := by
  unfold netStep
  split
  · simp
  · split
    · simp; omega
    · omega

theorem drop_getD {α : Type} (l : List α) (i : Nat) (d : α) (h : i < l.length) : l.drop i = l.getD i d :: l.drop (i + 1) := by
  rw [List.drop_eq_getElem_cons h, List.getD_eq_getElem?_getD, List.getElem?_eq_getElem h]; rfl

def kNet : C1 := C1.by [.sl 1 []] (lOne (cSl 1 cByte)) (fun d => d.length ≤ 1099511627776) (fun d => .sl 1 (ofBytes (net d))) (fun _ => [])
end Go.Pg
namespace Go.Pg
open Go Go.Proofs

abbrev lPos : CdL (Int × Int) := lCons (cInt .i64) (lOne (cInt .i64))
abbrev lTyp : CdL (Ls × (Int × Int) × (Int × Int) × Int × UInt8) := lCons cStrs (lCons (cAgg lPos) (lCons (cAgg lPos) (lCons (cInt .i64) (lOne cByte))))
def aTyped (t : Typed) : AV := .tuple [aCh t.1, aPos t.2.1, .bool t.2.2]
def kTyp : C1 := C1.by [.sl 1 [], .id, .id, .id, .id] lTyp (fun d => small d.1) (fun d => aTyped (typ d.1 d.2.1 d.2.2.1 d.2.2.2.1 d.2.2.2.2)) (fun _ => [])
theorem known1 : typ [[97, 98]] (0, 1) (0, 1) 1 120 = ((0, [[97, 98]], [[97, 120, 98]]), (0, 2), true) := by decide
theorem known2 : typ [[97, 98]] (0, 1) (0, 1) 1 8 = nothing := by decide
theorem known3 : typ [[97, 98]] (0, 1) (0, 0) 2 13 = ((0, [[97, 98]], [[97], [98]]), (1, 0), true) := by decide
theorem known4 : net [97, 8, 98] = [98] := by decide

def kKnown : C1 := C1.by [] lNil (fun _ => True) (fun _ => .bool true) (fun _ => [])
end Go.Pg
namespace Go.Pg
open Go Go.Proofs

/-- So many lines, so long. -/
def fits (n b : Nat) (ls : Ls) : Prop := ls.length ≤ n ∧ ∀ s ∈ ls, s.length ≤ b

theorem fits_getD {n b : Nat} {ls : Ls} (h : fits n b ls) (i : Nat) : (ls.getD i []).length ≤ b := by
  rw [List.getD_eq_getElem?_getD]
  cases e : ls[i]? with
  | none => simp
  | some s => exact h.2 s (List.mem_of_getElem? e)
theorem fits_small {n b : Nat} {ls : Ls} (h : fits n b ls) (hn : n ≤ 1099511627776) (hb : b ≤ 1099511627776) : small ls :=
  ⟨Nat.le_trans h.1 hn, fun i => Nat.le_trans (fits_getD h i) hb⟩
theorem fits_mono {n b n' b' : Nat} {ls : Ls} (h : fits n b ls) (hn : n ≤ n') (hb : b ≤ b') : fits n' b' ls :=
  ⟨Nat.le_trans h.1 hn, fun s hs => Nat.le_trans (h.2 s hs) hb⟩

theorem typ_cases (ls : Ls) (p f : Int × Int) (m : Int) (k : UInt8) : typ ls p f m k = nothing ∨
    (place ls p.1 p.2 = true ∧ (typ ls p f m k).2.2 = true ∧ (typ ls p f m k).1.1 = p.1 ∧ (typ ls p f m k).1.2.1 = [ls.getD p.1.toNat []]) := by
  unfold typ
  dsimp only
  split
  · next h =>
    have hp : place ls p.1 p.2 = true := by simp only [Bool.and_eq_true] at h; exact h.1
    split
    · exact .inr ⟨hp, rfl, rfl, rfl⟩
    · split
      · exact .inr ⟨hp, rfl, rfl, rfl⟩
      · split
        · exact .inr ⟨hp, rfl, rfl, rfl⟩
        · exact .inl rfl
  · exact .inl rfl

theorem typ_fits {n b : Nat} {ls : Ls} (h : fits n b ls) (p f : Int × Int) (m : Int) (k : UInt8) : (typ ls p f m k).1.2.1.length ≤ 1 ∧ fits 2 (b + 1) (typ ls p f m k).1.2.2 := by
  have hs := fits_getD h p.1.toNat
  have h0 : fits 2 (b + 1) [] := ⟨by simp, by simp⟩
  unfold typ
  dsimp only
  split
  · split
    · refine ⟨by simp, by simp, fun s hs' => ?_⟩
      simp only [List.mem_singleton] at hs'
      subst hs'
      simp only [List.length_append, List.length_take, List.length_cons, List.length_nil]
      split
      · simp only [List.length_drop]; omega
      · simp only [List.length_drop]; omega
    · split
      · refine ⟨by simp, by simp, fun s hs' => ?_⟩
        simp only [List.mem_cons, List.not_mem_nil, or_false] at hs'
        rcases hs' with rfl | rfl <;> simp only [List.length_take, List.length_drop] <;> omega
      · split
        · refine ⟨by simp, by simp, fun s hs' => ?_⟩
          simp only [List.mem_singleton] at hs'
          subst hs'
          simp only [List.length_append, List.length_take, List.length_drop]
          omega
        · exact ⟨by simp [nothing], h0⟩
  · exact ⟨by simp [nothing], h0⟩

theorem apply1_fits {n b n' b' : Nat} {ls : Ls} {x : Ch} (h : fits n b ls) (hx : fits n' b' x.2.2) (hb : b ≤ b') : fits (n + n') b' (apply1 ls x).1 := by
  unfold apply1
  split
  · exact ⟨by simp, by simp⟩
  · refine ⟨?_, fun s hs => ?_⟩
    · have := h.1
      have := hx.1
      simp only [List.length_append, List.length_take, List.length_drop]
      omega
    · simp only [List.mem_append] at hs
      rcases hs with (hs | hs) | hs
      · exact Nat.le_trans (h.2 s (List.mem_of_mem_take hs)) hb
      · exact hx.2 s hs
      · exact Nat.le_trans (h.2 s (List.mem_of_mem_drop hs)) hb

theorem applyL1 (ls : Ls) (x : Ch) : applyL ls [x] = if (apply1 ls x).2 = true then ((apply1 ls x).1, true) else ([], false) := rfl
theorem applyL1_fits {n b n' b' : Nat} {ls : Ls} {x : Ch} (h : fits n b ls) (hx : fits n' b' x.2.2) (hb : b ≤ b') : fits (n + n') b' (applyL ls [x]).1 := by
  rw [applyL1]
  split
  · exact apply1_fits h hx hb
  · exact ⟨by simp, by simp⟩

/-- Keys, one by one. -/
def typedL (ls : Ls) (p f : Int × Int) : List UInt8 → Ls × (Int × Int) × Bool
  | [] => (ls, p, true)
  | k :: r => if ((typ ls p f 1 k).2.2 && (applyL ls [(typ ls p f 1 k).1]).2) = true then typedL (applyL ls [(typ ls p f 1 k).1]).1 (typ ls p f 1 k).2.1 f r else ([], (0, 0), false)

def kTyped : C1 := C1.by [.sl 1 [], .id, .sl 1 []] (lCons cStrs (lCons (cAgg lPos) (lOne (cSl 1 cByte)))) (fun d => fits 65536 65536 d.1 ∧ d.2.2.length ≤ 65536)
  (fun d => .tuple [.sl 1 ((typedL d.1 d.2.1 d.2.1 d.2.2).1.map .str), aPos (typedL d.1 d.2.1 d.2.1 d.2.2).2.1, .bool (typedL d.1 d.2.1 d.2.1 d.2.2).2.2]) (fun _ => [])
end Go.Pg
namespace Go.Pg
open Go Go.Proofs

abbrev cPos : Cd (Int × Int) := cAgg lPos
abbrev cCh : Cd Ch := cAgg (lCons (cInt .i64) (lCons cStrs (lOne cStrs)))
def kChange : C1 := C1.by [.ag [none, some 1, some 1], .ag [none, some 1, some 1]] (lCons cCh (lOne cCh)) (fun d => d.1.2.1.length ≤ 140737488355328 ∧ d.1.2.2.length ≤ 140737488355328 ∧ d.2.2.1.length ≤ 140737488355328 ∧ d.2.2.2.length ≤ 140737488355328)
  (fun d => .bool (d.1 == d.2)) (fun _ => [])
/-- A place by two numbers. -/
def splace (ls : Ls) (a b : Int) : Int × Int := (a % ls.length, b % ((ls.getD (a % ls.length).toNat []).length + 1))
def kSPlace : C1 := C1.by [.sl 1 [], .id, .id] (lCons cStrs (lCons (cInt .u16) (lOne (cInt .u16)))) (fun d => 0 < d.1.length ∧ small d.1 ∧ (0 ≤ d.2.1 ∧ d.2.1 < 65536) ∧ 0 ≤ d.2.2 ∧ d.2.2 < 65536)
  (fun d => aPos (splace d.1 d.2.1 d.2.2)) (fun _ => [])
theorem ok_SPlace : C1OK Try.prog 17 kSPlace := C1OK.by (by kernel_rfl) (fun d h => calls_SPlace d.1 d.2.1 d.2.2 h.1 h.2.1 h.2.2.1 h.2.2.2) (fun _ => rfl) (fun _ => rfl)
def kRSize : C1 := C1.by [.sl 1 []] (lOne cStrs) (fun d => few d) (fun d => .int .i64 (size d)) (fun _ => [])
theorem splace_place (ls : Ls) (a b : Int) (h : 0 < ls.length) (hb : 0 ≤ b) : place ls (splace ls a b).1 (splace ls a b).2 = true := by
  rw [place_iff]
  have h3 := Int.emod_nonneg a (b := ls.length) (by omega)
  have h4 := Int.emod_lt_of_pos a (b := ls.length) (by omega)
  refine ⟨h3, ?_, Int.emod_nonneg _ (by omega), ?_⟩
  · show (a % ls.length).toNat < _; omega
  · have h5 := Int.emod_lt_of_pos b (b := (ls.getD (a % ls.length).toNat []).length + 1) (by omega)
    show b % ((ls.getD (a % ls.length).toNat []).length + 1) ≤ ((ls.getD (a % ls.length).toNat []).length : Int)
    omega

theorem fits_text {ls : Ls} (h : text ls = true) : fits 40 1200 ls := by
  obtain ⟨h1, h2, h3⟩ := few_of_text h
  refine ⟨h2, fun s hs => ?_⟩
  obtain ⟨i, hi, rfl⟩ := List.getElem_of_mem hs
  have := h3 i
  rw [List.getD_eq_getElem?_getD, List.getElem?_eq_getElem hi] at this
  exact this
end Go.Pg
namespace Go.Pg
open Go Go.Proofs

/-- The bytes of a line that are asked. -/
def marksIn (g : List UInt8 → Nat → Bool) (l : Nat) (s : List UInt8) (k : Nat) : List (Int × Int) := ((List.range k).filter (g s)).map fun i : Nat => ((l : Int), (i : Int))
def lineMarks (e : Bool) (g : List UInt8 → Nat → Bool) (l : Nat) (s : List UInt8) : List (Int × Int) := (if (e && s == []) = true then [((l : Int), 0)] else []) ++ marksIn g l s s.length
def marksTo (e : Bool) (g : List UInt8 → Nat → Bool) (ls : Ls) (n : Nat) : List (Int × Int) := (List.range n).flatMap fun l => lineMarks e g l (ls.getD l [])

def startB (big : Bool) (s : List UInt8) (i : Nat) : Bool := (cls (s.getD i 0).toNat big != 0) && (((i : Int) == 0) || cls (s.getD (i - 1) 0).toNat big != cls (s.getD i 0).toNat big)
def endB (big : Bool) (s : List UInt8) (i : Nat) : Bool := (cls (s.getD i 0).toNat big != 0) && (((i : Int) == (s.length : Int) - 1) || cls (s.getD (i + 1) 0).toNat big != cls (s.getD i 0).toNat big)

theorem marksIn_len (g : List UInt8 → Nat → Bool) (l : Nat) (s : List UInt8) (k : Nat) : (marksIn g l s k).length ≤ k := by
  unfold marksIn
  rw [List.length_map]
  exact Nat.le_trans (List.length_filter_le _ _) (by simp)
theorem marksIn_succ (g : List UInt8 → Nat → Bool) (l : Nat) (s : List UInt8) (k : Nat) : marksIn g l s (k + 1) = if g s k = true then marksIn g l s k ++ [((l : Int), (k : Int))] else marksIn g l s k := by
  unfold marksIn
  rw [List.range_succ, List.filter_append]
  split
  · next h => simp [h]
  · next h => simp [h]
theorem marksTo_succ (e : Bool) (g : List UInt8 → Nat → Bool) (ls : Ls) (n : Nat) : marksTo e g ls (n + 1) = marksTo e g ls n ++ lineMarks e g n (ls.getD n []) := by
  unfold marksTo
  rw [List.range_succ, List.flatMap_append]
  simp
theorem marksTo_len (e : Bool) (g : List UInt8 → Nat → Bool) (ls : Ls) (B : Nat) (h : ∀ i, (ls.getD i []).length ≤ B) (n : Nat) : (marksTo e g ls n).length ≤ n * (B + 1) := by
  induction n with
  | zero => simp [marksTo]
  | succ n ih =>
    rw [marksTo_succ, List.length_append, Nat.add_mul, Nat.one_mul]
    have h1 := marksIn_len g n (ls.getD n []) (ls.getD n []).length
    have h2 := h n
    have h3 : (lineMarks e g n (ls.getD n [])).length ≤ B + 1 := by
      unfold lineMarks
      split
      · next h => 
        have : ls.getD n [] = [] := by simp only [Bool.and_eq_true, beq_iff_eq] at h; exact h.2
        rw [this]; simp [marksIn]
      · rw [List.nil_append]; omega
    omega
theorem app1_pos2 (l : List (Int × Int)) (a b : Int) : l.map aPos ++ [.agg [.int .i64 a, .int .i64 b]] = (l ++ [(a, b)]).map aPos := by simp [aPos]
end Go.Pg
