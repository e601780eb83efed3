/- Facts of the program's types, by the kernel. Lists of strings are compared as they are. Registers: sizes, copies. slices.Grow of nil, slices.Concat, of nothing too. Marks: made, set, asked. A map by bytes held against a list of names, in order, and what they have: plain. -/
import Derived.Test.YtohpkjpipihdoaaPgLst
import Derived.Test.YtohpkjpipihdoaaProg
import Derived.KernelRfl
import Derived.Test.YtohpkjpipihdoaaPgHcd
import Derived.Test.YtohpkjpipihdoaaPgNil
import Derived.Shelf.Spec.SlicesGrow
namespace Go.Pg
open Go Go.Proofs
theorem mixed : Try.prog.follows .mixedOrders = true := by kernel_rfl
theorem tk3 : tk Try.prog 3 = TK.int IntKind.i64 := by kernel_rfl
theorem tz3 : tz Try.prog 3 = AV.int IntKind.i64 0 := by kernel_rfl
theorem dz3 : dz Try.prog 3 = AV.int IntKind.i64 0 := by kernel_rfl
theorem tk4 : tk Try.prog 4 = TK.bool := by kernel_rfl
theorem tk5 : tk Try.prog 5 = TK.int IntKind.u8 := by kernel_rfl
theorem tz5 : tz Try.prog 5 = AV.int IntKind.u8 0 := by kernel_rfl
theorem dz5 : dz Try.prog 5 = AV.int IntKind.u8 0 := by kernel_rfl
theorem eb5 : eb Try.prog 5 = some 1 := by kernel_rfl
theorem tk9 : tk Try.prog 9 = TK.str := by kernel_rfl
theorem dz9 : dz Try.prog 9 = AV.str [] := by kernel_rfl
theorem eb9 : eb Try.prog 9 = some 16 := by kernel_rfl
theorem tk32 : tk Try.prog 32 = TK.slice 5 1 := by kernel_rfl
theorem dz32 : dz Try.prog 32 = AV.sl 1 [] := by kernel_rfl
theorem tk50 : tk Try.prog 50 = TK.slice 9 1 := by kernel_rfl
theorem dz50 : dz Try.prog 50 = AV.sl 1 [] := by kernel_rfl
theorem eb50 : eb Try.prog 50 = some 24 := by kernel_rfl
theorem tk52 : tk Try.prog 52 = TK.struct 2 [some (0, 1), some (1, 1)] := by kernel_rfl
theorem tz52 : tz Try.prog 52 = AV.agg [AV.int IntKind.i64 0, AV.nls] := by kernel_rfl
theorem dz52 : dz Try.prog 52 = AV.agg [AV.int IntKind.i64 0, AV.sl 1 []] := by kernel_rfl
theorem eb52 : eb Try.prog 52 = some 32 := by kernel_rfl
theorem tk58 : tk Try.prog 58 = TK.leaf := by kernel_rfl
theorem dz58 : dz Try.prog 58 = AV.npt := by kernel_rfl
theorem pt58 : ptrT Try.prog 58 = true := by kernel_rfl
theorem tk66 : tk Try.prog 66 = TK.slice 72 5 := by kernel_rfl
theorem tk68 : tk Try.prog 68 = TK.slice 52 2 := by kernel_rfl
theorem tk70 : tk Try.prog 70 = TK.struct 2 [some (0, 1), some (1, 1)] := by kernel_rfl
theorem tz70 : tz Try.prog 70 = AV.agg [AV.nls, AV.nls] := by kernel_rfl
theorem dz70 : dz Try.prog 70 = AV.agg [AV.sl 1 [], AV.sl 2 []] := by kernel_rfl
theorem tk72 : tk Try.prog 72 = TK.struct 5 [some (0, 1), some (1, 1), some (2, 2), some (4, 1)] := by kernel_rfl
theorem tz72 : tz Try.prog 72 = AV.agg [AV.int IntKind.u8 0, AV.int IntKind.u8 0, AV.int IntKind.i64 0, AV.nls, AV.bool false] := by kernel_rfl
theorem dz72 : dz Try.prog 72 = AV.agg [AV.int IntKind.u8 0, AV.int IntKind.u8 0, AV.int IntKind.i64 0, AV.sl 1 [], AV.bool false] := by kernel_rfl
theorem tk90 : tk Try.prog 90 = TK.leaf := by kernel_rfl
theorem mt90 : mapT Try.prog 90 = some (some IntKind.u8, 52) := by kernel_rfl
theorem tk92 : tk Try.prog 92 = TK.struct 1 [some (0, 1)] := by kernel_rfl
theorem tz92 : tz Try.prog 92 = AV.agg [AV.top] := by kernel_rfl
theorem dz92 : dz Try.prog 92 = AV.agg [AV.top] := by kernel_rfl
theorem tk102 : tk Try.prog 102 = TK.slice 50 1 := by kernel_rfl
theorem tk108 : tk Try.prog 108 = TK.int IntKind.u64 := by kernel_rfl
theorem tk121 : tk Try.prog 121 = TK.int IntKind.u64 := by kernel_rfl
theorem tz121 : tz Try.prog 121 = AV.int IntKind.u64 0 := by kernel_rfl
theorem dz121 : dz Try.prog 121 = AV.int IntKind.u64 0 := by kernel_rfl
end Go.Pg
namespace Go.Pg
open Go Go.Proofs

theorem eq_of_takes {a b : List (List UInt8)} (h : a.length = b.length) (ht : a.take a.length = b.take a.length) : a = b := by
  rw [List.take_length] at ht
  rw [h, List.take_length] at ht
  exact ht

theorem take_succ_eq {a b : List (List UInt8)} {i : Nat} (h : a.take i = b.take i) (ha : i < a.length) (hb : i < b.length) (he : a.getD i [] = b.getD i []) : a.take (i + 1) = b.take (i + 1) := by
  simp only [List.getD_eq_getElem?_getD, List.getElem?_eq_getElem ha, List.getElem?_eq_getElem hb, Option.getD_some] at he
  rw [List.take_succ_eq_append_getElem ha, List.take_succ_eq_append_getElem hb, h, he]

theorem calls_Strings (a b : List (List UInt8)) (ha : a.length ≤ 140737488355328) (hb : b.length ≤ 140737488355328) :
    CallsR Try.prog 36 [.sl 1 (a.map .str), .sl 1 (b.map .str)] [] (.bool (a == b)) [] := by
  refine callsR_of (mrg := true) (dyn := []) (CtrOK.nil _) mixed Try.func36 rfl (by simp [Try.ntmps36]) (by kernel_rfl) ?_
  rw [show Try.f36.results.toList = [.tmp 4] from by kernel_rfl]
  simp (maxSteps := 4000000) only [↓wpA_H, ↓wpH_skip, ↓wpH_ret, ↓wpH_seq, ↓wpH_cond, ↓wpH_block, ↓wpH_loop, ↓wpH_region, iselH_if, bselH_false, runH_nil, runH_cons, gw, gselH_plain, cselH_bool, ↓chk, justK, ↓oneK, ↓pureK, envOf, ↓thenA_normal, ↓thenA_ret, ↓stepEv, opnd, Pg.look, binK, intOp, Bool.false_eq_true, implies_true, true_and, and_true, valV, heapV, footV, binV, intV, alives, closeQ_nil, diagQ_zero, ofV, ofLeaf, retA, resK, tupA, subA, subQ, ptrsE, frzO, subF, subG, pickOf, frzE, frzC, frz0, frzH, Pg.freeze, List.foldl_nil, subOs, subEv, subV_succ, subM, slen, Option.getD_some, reduceCtorEq, Nat.reduceEqDiff, List.append_nil, List.length_nil, Nat.zero_add, ite_true, ite_false, Option.some.injEq, AV.int.injEq, and_self, exists_eq_left', pickOK_nil, List.length_map, List.contains_nil, regH_none, isNext, nextF, nextG, selC_false, tk50]
  refine ⟨fun h => ?_, fun h => ?_⟩
  · symm
    rw [beq_eq_false_iff_ne]
    intro e
    subst e
    simp at h
  have hlen : a.length = b.length := by
    simp at h
    omega
  refine loopH_intro (α := Nat) (fun i => ([(0, .sl 1 (a.map .str)), (1, .sl 1 (b.map .str)), (4, .bool false), (5, .int .i64 i)], [])) (fun i => i ≤ a.length ∧ a.take i = b.take i) (fun i => a.length - i) 0 ?_ ?_ ?_
  · simp
  · simp (maxSteps := 4000000) only [Pg.look, alives, closeQ_nil, diagQ_zero, subA, subQ, ptrsE, frzO, subF, subG, pickOf, frzE, frzC, frz0, frzH, Pg.freeze, List.foldl_nil, subOs, subEv, subV_succ, subM, reduceCtorEq, Nat.reduceEqDiff, List.append_nil, ite_true, ite_false, and_self, pickOK_nil, Int.cast_ofNat_Int]
    all_goals simp
  · intro i hi
    simp (maxSteps := 4000000) only [↓wpA_H, ↓wpH_skip, ↓wpH_ret, ↓wpH_exit, ↓wpH_seq, ↓wpH_cond, ↓wpH_block, ↓wpH_region, iselH_if, bselH_false, runH_nil, runH_cons, gw, gselH_plain, cselH_bool, ↓chk, justK, noW, ↓oneK, ↓pureK, ↓heapK, ↓thenA_normal, ↓thenA_ret, ↓thenA_exit, ↓blockA_normal, ↓blockA_ret, ↓blockA_exit, ↓stepEv, opnd, Pg.look, binK, intOp, strOp, Bool.false_eq_true, implies_true, true_and, and_true, valV, heapV, footV, binV, intV, strV, alives, closeQ_nil, diagQ_zero, ofV, ofLeaf, retA, resK, tupA, subA, subQ, ptrsE, frzO, subF, subG, pickOf, frzE, frzC, frz0, frzH, Pg.freeze, List.foldl_nil, subOs, subEv, subV_succ, subM, slen, ldCells, AV.cells, TK.cells, List.getElem?_cons_zero, Option.getD_some, reduceCtorEq, Nat.reduceEqDiff, List.append_nil, List.length_nil, ite_true, ite_false, Option.some.injEq, AV.int.injEq, decide_eq_true_eq, decide_eq_false_iff_not, Int.not_lt, and_self, Bool.not_eq_true', exists_eq_left', pickOK_nil, List.length_map, List.contains_nil, getD_str, Int.toNat_natCast, regH_none, isNext, nextF, nextG, selC_true, selC_false, pureC, tk9, dz9, tk50]
    refine ⟨fun h1 => ⟨⟨by omega, by omega⟩, ⟨by omega, by omega⟩, fun h2 => ?_, fun h2 => ⟨i + 1, ⟨by omega, take_succ_eq hi.2 (by omega) (by omega) (by simpa using h2)⟩, by omega, by rw [wrap64 (by omega) (by omega)]; omega⟩⟩, fun h1 => ?_⟩
    · symm
      rw [beq_eq_false_iff_ne]
      intro e
      subst e
      simp at h2
    · symm
      rw [beq_iff_eq]
      have : i = a.length := by omega
      subst this
      exact eq_of_takes hlen hi.2

def kStrings : C1 := C1.by [.sl 1 [], .sl 1 []] (lCons cStrs (lOne cStrs)) (fun d => d.1.length ≤ 140737488355328 ∧ d.2.length ≤ 140737488355328) (fun d => .bool (d.1 == d.2)) (fun _ => [])
theorem ok_Strings : C1OK Try.prog 36 kStrings :=
  C1OK.by (by kernel_rfl) (fun d h => calls_Strings d.1 d.2 h.1 h.2) (fun _ => rfl) (fun _ => rfl)

end Go.Pg
namespace Go.Pg
open Go Go.Proofs

abbrev LsR := List (List UInt8)
abbrev RgV := Int × LsR
abbrev lRgV : CdL RgV := lCons (cInt .i64) (lOne cStrs)
abbrev cRgV : Cd RgV := cAgg lRgV
abbrev aRg (r : RgV) : AV := .agg [.int .i64 r.1, .sl 1 (r.2.map .str)]
theorem cRgV_enc (r : RgV) : cRgV.enc r = aRg r := rfl
theorem cRgV_dec (k : Int) (l : LsR) : cRgV.dec (.agg [.int .i64 k, .sl 1 (l.map .str)]) = some (k, l) := by
  show dec2 ((cInt .i64).dec (.int .i64 k)) (cStrs.dec (.sl 1 (l.map .str))) = _
  rw [cInt_dec, cSl_dec, decL_str]; rfl
theorem cRgV_ed (r : RgV) : cRgV.dec (cRgV.enc r) = some r := cRgV_dec r.1 r.2

def lsz (ls : LsR) : Int := (ls.map fun s => (s.length : Int) + 1).sum
/-- Not too many lines. -/
def fitR (ls : LsR) : Prop := ls.length ≤ 1000000 ∧ lsz ls ≤ 1152921504606846976
theorem lsz_take (ls : LsR) (i : Nat) (h : i < ls.length) : lsz (ls.take (i + 1)) = lsz (ls.take i) + ((ls.getD i []).length + 1) := by
  have e : ls.take (i + 1) = ls.take i ++ [ls.getD i []] := by
    rw [List.take_succ_eq_append_getElem h, List.getD_eq_getElem?_getD, List.getElem?_eq_getElem h]; rfl
  rw [e]
  simp only [lsz, List.map_append, List.sum_append, List.map_cons, List.map_nil, List.sum_cons, List.sum_nil]
  omega
theorem lsz_cons (a : List UInt8) (l : LsR) : lsz (a :: l) = (a.length : Int) + 1 + lsz l := by simp [lsz]
theorem lsz_app (a b : LsR) : lsz (a ++ b) = lsz a + lsz b := by simp [lsz]
theorem lsz_nonneg (l : LsR) : 0 ≤ lsz l := by
  induction l with
  | nil => exact Int.le_refl _
  | cons a l ih => rw [lsz_cons]; omega
theorem lsz_len (l : LsR) : (l.length : Int) ≤ lsz l := by
  induction l with
  | nil => exact Int.le_refl _
  | cons a l ih => rw [lsz_cons, List.length_cons]; omega
theorem lsz_take_le (l : LsR) (i : Nat) : 0 ≤ lsz (l.take i) ∧ lsz (l.take i) ≤ lsz l := by
  have h := lsz_app (l.take i) (l.drop i)
  rw [List.take_append_drop] at h
  have h1 := lsz_nonneg (l.take i)
  have h2 := lsz_nonneg (l.drop i)
  omega
theorem lsz_getD (l : LsR) (i : Nat) : ((l.getD i []).length : Int) ≤ lsz l := by
  induction l generalizing i with
  | nil => simp [lsz]
  | cons a l ih =>
    have h0 := lsz_nonneg l
    rw [lsz_cons]
    cases i with
    | zero => simp only [List.getD_cons_zero]; omega
    | succ i => simp only [List.getD_cons_succ]; have := ih i; omega
theorem lsz_fit {ls : LsR} (hs : fitR ls) (i : Nat) (_hi : i ≤ ls.length) : 0 ≤ lsz (ls.take i) ∧ lsz (ls.take i) ≤ 1152921504606846976 := by
  have := lsz_take_le ls i
  have := hs.2
  omega
def kLSize : C1 := C1.by [.sl 1 []] (lOne cStrs) (fun d => fitR d) (fun d => .int .i64 (lsz d)) (fun _ => [])

theorem calls_LSizeR (ls : LsR) (hs : fitR ls) : CallsR Try.prog 32 [.sl 1 (ls.map .str)] [] (.int .i64 (lsz ls)) [] := by
  refine callsR_of (mrg := true) (dyn := []) (CtrOK.nil _) mixed Try.func32 rfl (by simp [Try.ntmps32]) (by kernel_rfl) ?_
  rw [show Try.f32.results.toList = [.tmp 2] from by kernel_rfl]
  simp (maxSteps := 4000000) only [↓wpA_H, ↓wpH_seq, ↓wpH_block, ↓wpH_loop, ↓wpH_region, bselH_false, runH_nil, runH_cons, gw, gselH_plain, ↓chk, justK, ↓oneK, ↓pureK, envOf, ↓thenA_normal, ↓stepEv, opnd, Bool.false_eq_true, implies_true, true_and, valV, heapV, footV, ofV, ofLeaf, List.length_nil, ite_false, and_self, List.contains_nil, regH_none, isNext, nextF, nextG, selC_false]
  have hl := hs.1
  refine loopH_intro (α := Nat) (fun i => ([(0, .sl 1 (ls.map .str)), (2, .int .i64 0), (3, .int .i64 (lsz (ls.take i))), (4, .int .i64 i)], [])) (fun i => i ≤ ls.length) (fun i => ls.length - i) 0 ?_ ?_ ?_
  · simp
  · simp (maxSteps := 4000000) only [Pg.look, true_and, and_true, alives, closeQ_nil, diagQ_zero, subA, subQ, ptrsE, frzO, subF, subG, pickOf, frzE, frzC, frz0, frzH, Pg.freeze, List.foldl_nil, subOs, subEv, subV_succ, subM, reduceCtorEq, Nat.reduceEqDiff, List.append_nil, ite_true, ite_false, and_self, pickOK_nil, Int.cast_ofNat_Int, List.take_zero]
    all_goals simp [lsz]
  · intro i hi
    simp (maxSteps := 4000000) only [↓wpA_H, ↓wpH_skip, ↓wpH_ret, ↓wpH_exit, ↓wpH_seq, ↓wpH_cond, ↓wpH_block, ↓wpH_region, iselH_if, bselH_false, runH_nil, runH_cons, gw, gselH_plain, cselH_bool, ↓chk, justK, noW, ↓oneK, ↓pureK, ↓heapK, ↓thenA_normal, ↓thenA_exit, ↓blockA_normal, ↓blockA_exit, ↓stepEv, opnd, Pg.look, binK, intOp, Bool.false_eq_true, implies_true, true_and, and_true, valV, heapV, footV, binV, intV, alives, closeQ_nil, diagQ_zero, ofV, ofLeaf, retA, resK, tupA, subA, subQ, ptrsE, frzO, subF, subG, pickOf, frzE, frzC, frz0, frzH, Pg.freeze, List.foldl_nil, subOs, subEv, subV_succ, subM, slen, ldCells, AV.cells, TK.cells, List.getElem?_cons_zero, Option.getD_some, reduceCtorEq, Nat.reduceEqDiff, List.append_nil, List.length_nil, ite_true, ite_false, Option.some.injEq, AV.int.injEq, decide_eq_true_eq, decide_eq_false_iff_not, Int.not_lt, and_self, exists_eq_left', pickOK_nil, List.length_map, List.contains_nil, getD_str, Int.toNat_natCast, regH_none, isNext, nextF, nextG, selC_false, tk9, dz9, tk50]
    have h1 := lsz_fit hs i hi
    refine ⟨fun h => ⟨⟨by omega, by omega⟩, i + 1, by omega, by omega, ?_⟩, fun h => ?_⟩
    · have h2 := lsz_getD ls i
      have h3 := hs.2
      rw [lsz_take ls i (by omega), wrap64 (n := ((ls.getD i []).length : Int) + 1) (by omega) (by omega), wrap64 (by omega) (by omega), wrap64 (by omega) (by omega)]
      simp
    · have : i = ls.length := by omega
      subst this
      rw [List.take_length]
theorem ok_LSizeR : C1OK Try.prog 32 kLSize := C1OK.by (by kernel_rfl) (fun d h => calls_LSizeR d h) (fun _ => rfl) (fun _ => rfl)

theorem calls_LSizeC (ls : LsR) (hs : fitR ls) : CallsR Try.prog 51 [.sl 1 (ls.map .str)] [] (.int .i64 (lsz ls)) [] := by
  refine callsR_of (mrg := true) (dyn := []) (CtrOK.nil _) mixed Try.func51 rfl (by simp [Try.ntmps51]) (by kernel_rfl) ?_
  rw [show Try.f51.results.toList = [.tmp 2] from by kernel_rfl]
  simp (maxSteps := 4000000) only [↓wpA_H, ↓wpH_seq, ↓wpH_block, ↓wpH_loop, ↓wpH_region, bselH_false, runH_nil, runH_cons, gw, gselH_plain, ↓chk, justK, ↓oneK, ↓pureK, envOf, ↓thenA_normal, ↓stepEv, opnd, Pg.look, Bool.false_eq_true, implies_true, true_and, and_true, valV, heapV, footV, ofV, ofLeaf, slen, Option.getD_some, reduceCtorEq, Nat.reduceEqDiff, List.length_nil, ite_true, ite_false, Option.some.injEq, AV.int.injEq, and_self, exists_eq_left', List.length_map, List.contains_nil, regH_none, isNext, nextF, nextG, selC_false, tk50]
  have hl := hs.1
  refine loopH_intro (α := Nat) (fun i => ([(2, .int .i64 0), (3, .int .i64 (lsz (ls.take i))), (6, .sl 1 (ls.map .str)), (7, .int .i64 ls.length), (8, .int .i64 i)], [])) (fun i => i ≤ ls.length) (fun i => ls.length - i) 0 ?_ ?_ ?_
  · simp
  · simp (maxSteps := 4000000) only [Pg.look, true_and, and_true, alives, closeQ_nil, diagQ_zero, subA, subQ, ptrsE, frzO, subF, subG, pickOf, frzE, frzC, frz0, frzH, Pg.freeze, List.foldl_nil, subOs, subEv, subV_succ, subM, reduceCtorEq, Nat.reduceEqDiff, List.append_nil, ite_true, ite_false, and_self, pickOK_nil, Int.cast_ofNat_Int, List.take_zero]
    all_goals simp [lsz]
  · intro i hi
    simp (maxSteps := 4000000) only [↓wpA_H, ↓wpH_skip, ↓wpH_ret, ↓wpH_exit, ↓wpH_seq, ↓wpH_cond, ↓wpH_block, ↓wpH_region, iselH_if, bselH_false, runH_nil, runH_cons, gw, gselH_plain, cselH_bool, ↓chk, justK, noW, ↓oneK, ↓pureK, ↓heapK, ↓thenA_normal, ↓thenA_exit, ↓blockA_normal, ↓blockA_exit, ↓stepEv, opnd, Pg.look, binK, intOp, Bool.false_eq_true, implies_true, true_and, and_true, valV, heapV, footV, binV, intV, alives, closeQ_nil, diagQ_zero, ofV, ofLeaf, retA, resK, tupA, subA, subQ, ptrsE, frzO, subF, subG, pickOf, frzE, frzC, frz0, frzH, Pg.freeze, List.foldl_nil, subOs, subEv, subV_succ, subM, ldCells, AV.cells, TK.cells, List.getElem?_cons_zero, Option.getD_some, Nat.reduceEqDiff, List.append_nil, List.length_nil, ite_true, ite_false, Option.some.injEq, decide_eq_true_eq, decide_eq_false_iff_not, Int.not_lt, and_self, exists_eq_left', pickOK_nil, List.length_map, List.contains_nil, getD_str, Int.toNat_natCast, regH_none, isNext, nextF, nextG, selC_false, tk9, dz9, tk50]
    have h1 := lsz_fit hs i hi
    refine ⟨fun h => ⟨⟨by omega, by omega⟩, i + 1, by omega, by omega, ?_⟩, fun h => ?_⟩
    · have h2 := lsz_getD ls i
      have h3 := hs.2
      rw [lsz_take ls i (by omega), wrap64 (n := ((ls.getD i []).length : Int) + 1) (by omega) (by omega), wrap64 (by omega) (by omega), wrap64 (by omega) (by omega)]
      simp
    · have : i = ls.length := by omega
      subst this
      rw [List.take_length]
theorem ok_LSizeC : C1OK Try.prog 51 kLSize := C1OK.by (by kernel_rfl) (fun d h => calls_LSizeC d h) (fun _ => rfl) (fun _ => rfl)

set_option maxHeartbeats 4000000 in
theorem calls_RgSize (r : RgV) (hs : fitR r.2) : CallsR Try.prog 31 [aRg r] [] (.int .i64 (lsz r.2)) [] := by
  refine callsR_of (mrg := true) (dyn := []) (CtrOK.cons ok_LSizeC (CtrOK.nil _)) mixed Try.func31 rfl (by simp [Try.ntmps31]) (by kernel_rfl) ?_
  rw [show Try.f31.results.toList = [.tmp 2] from by kernel_rfl]
  simp (maxSteps := 4000000) only [↓wpA_H, ↓wpH_ret, ↓wpH_seq, ↓wpH_region, bselH_false, runH_nil, runH_cons, gw, gselH_plain, ↓chk, justK, noW, ↓oneK, ↓pureK, ↓heapK, envOf, ↓thenA_normal, ↓stepEv, opnd, Pg.look, Bool.false_eq_true, implies_true, true_and, and_true, valV, heapV, footV, alives, closeQ_nil, diagQ_zero, Nat.reduceAdd, ofV, ofLeaf, retA, resK, tupA, subA, subQ, ptrsE, frzO, subF, subG, pickOf, frzE, frzC, frz0, frzH, Pg.freeze, List.foldl_nil, subOs, subEv, subV_succ, subM, ldCells, objAt, ↓callT, callC, callV, callH, normArgs, normA, normC, resL, res8_eq, res_succ, resM, shiftR, shift1, AV.cells, TK.cells, AV.definite, List.getElem?_cons_succ, List.getElem?_cons_zero, Option.getD_some, reduceCtorEq, Nat.reduceEqDiff, Nat.reduceAdd, List.nil_append, List.append_nil, List.length_cons, List.length_nil, List.map_cons, List.map_nil, Nat.zero_add, ite_true, ite_false, Option.some.injEq, and_self, exists_eq_left', pickOK_nil, cSl_dec, lOne_dec, List.contains_nil, List.range'_zero, decL_str, C1by_ns, C1by_pre, C1by_r, C1by_H, optP_some, optV_some, optH_some, List.getD_cons_zero, Nat.zero_lt_succ, C1by_it, regH_none, isNext, nextF, nextG, selC_false, ↓msel, muC, ↓callP, C1by_mu, tk50, tk52, dz52, kLSize]
  exact hs
def kRgSize : C1 := C1.by [.ag [none, some 1]] (lOne cRgV) (fun d => fitR d.2) (fun d => .int .i64 (lsz d.2)) (fun _ => [])
theorem ok_RgSize : C1OK Try.prog 31 kRgSize := C1OK.by (by kernel_rfl) (fun d h => calls_RgSize d h) (fun _ => rfl) (fun _ => rfl)

set_option maxHeartbeats 4000000 in
theorem calls_HReg (a b : RgV) (ha : a.2.length ≤ 140737488355328) (hb : b.2.length ≤ 140737488355328) : CallsR Try.prog 29 [aRg a, aRg b] [] (.bool (a == b)) [] := by
  refine callsR_of (mrg := true) (dyn := []) (CtrOK.cons ok_Strings (CtrOK.nil _)) mixed Try.func29 rfl (by simp [Try.ntmps29]) (by kernel_rfl) ?_
  rw [show Try.f29.results.toList = [.tmp 4] from by kernel_rfl]
  simp (maxSteps := 4000000) only [↓wpA_H, ↓wpH_ret, ↓wpH_seq, ↓wpH_region, bselH_false, runH_nil, runH_cons, gw, gselH_plain, gselH_if, kselH_1, gkind, ↓chk, justK, noW, ↓oneK, ↓pureK, ↓heapK, envOf, ↓thenA_normal, ↓stepEv, opnd, Pg.look, binK, intOp, dstOf, Bool.false_eq_true, implies_true, imp_self, true_and, and_true, pickC, pickV, unc, gof, mux, mergeK, condsL, valV, heapV, footV, binV, intV, alives, closeQ_nil, diagQ_zero, Nat.reduceAdd, mergeable, look_stripE, ofV, ofLeaf, sameK, retA, resK, tupA, subA, subQ, ptrsE, frzO, subF, subG, pickOf, frzE, frzC, frz0, frzH, Pg.freeze, List.foldl_nil, subOs, subEv, subV_succ, subM, ldCells, objAt, ↓callT, callC, callV, normArgs, normA, normC, resL, res8_eq, res_succ, resM, shiftR, shift1, AV.cells, TK.cells, AV.definite, Op.operands, Call.operands, Array.toList_append, List.getElem?_toArray, List.getElem?_cons_succ, List.getElem?_cons_zero, Option.bind_some, Option.getD_some, reduceCtorEq, Nat.reduceEqDiff, Nat.reduceAdd, List.nil_append, List.append_nil, List.cons_append, List.length_cons, List.length_nil, List.map_cons, List.map_nil, Nat.zero_add, ite_true, ite_false, Option.some.injEq, Bool.if_false_right, Bool.decide_eq_true, Bool.and_self, and_self, exists_eq_left', pickOK_nil, List.toList_toArray, cSl_dec, lOne_dec, lCons_dec, dec2_some, List.contains_nil, List.range'_zero, decL_str, C1by_ns, C1by_pre, C1by_r, C1by_H, optP_some, optV_some, optH_some, List.getD_cons_zero, Nat.add_zero, Nat.zero_lt_succ, C1by_it, regH_none, isNext, nextF, nextG, selC_false, ↓msel, muC, ↓callP, C1by_mu, tk3, tk50, tk52, dz52, kStrings]
  refine ⟨fun h => ⟨h, ha, hb⟩, ?_⟩
  obtain ⟨a1, a2⟩ := a
  obtain ⟨b1, b2⟩ := b
  rfl
def kHReg : C1 := C1.by [.ag [none, some 1], .ag [none, some 1]] (lCons cRgV (lOne cRgV)) (fun d => d.1.2.length ≤ 140737488355328 ∧ d.2.2.length ≤ 140737488355328) (fun d => .bool (d.1 == d.2)) (fun _ => [])
theorem ok_HReg : C1OK Try.prog 29 kHReg := C1OK.by (by kernel_rfl) (fun d h => calls_HReg d.1 d.2 h.1 h.2) (fun _ => rfl) (fun _ => rfl)

theorem calls_SClone (ls : List (List UInt8)) (hb : ls.length ≤ 4398046511104) : CallsR Try.prog 64 [.sl 1 (ls.map .str)] [] (.own 0 1 ls.length) [.arr 9 1 (ls.map .str)] := by
  refine callsR_ofW Try.func64 rfl (by simp [Try.ntmps64]) fun E hr => ?_
  rw [show Try.f64.results.toList = [.tmp 2] from by kernel_rfl]
  refine AWp.seq (wpA_sound (C := []) (mrg := true) (dyn := []) (CtrOK.nil _) mixed _ _ E _ _ _ none false hr (fun ev H h => h) (by kernel_rfl) (.inl ⟨rfl, rfl⟩) ?_)
  simp (maxSteps := 4000000) only [↓wpA_H, ↓wpH_region, bselH_false, runH_nil, runH_cons, gw, gselH_plain, ↓chk, justK, ↓oneK, ↓pureK, envOf, ↓thenA_normal, ↓stepEv, opnd, Bool.false_eq_true, implies_true, true_and, valV, heapV, footV, ofV, ofLeaf, List.length_nil, ite_false, and_self, List.contains_nil, regH_none, isNext, nextF, nextG, selC_false]
  refine AWp.seq (AWp.seq (AWp.isNil (z := 1) (vs := ls.map .str) Try.underlying50 (by simp [Try.ntmps64]) (by simp [Try.ntmps64]) (by simp [Pg.look]) fun b hbn => ?_))
  refine wpA_sound (C := []) (mrg := true) (dyn := []) (CtrOK.nil _) mixed _ _ E _ _ _ none false hr (fun ev H h => h) (by kernel_rfl) (.inl ⟨rfl, rfl⟩) ?_
  simp (maxSteps := 4000000) only [↓wpA_H, ↓wpH_skip, ↓wpH_ret, ↓wpH_seq, ↓wpH_cond, ↓wpH_region, iselH_if, bselH_false, runH_nil, runH_cons, gw, gselH_plain, cselH_bool, ↓chk, justK, ↓oneK, ↓pureK, ↓thenA_normal, ↓thenA_ret, ↓stepEv, opnd, Pg.look, Bool.false_eq_true, implies_true, true_and, valV, heapV, footV, ofV, ofLeaf, reduceCtorEq, Nat.reduceEqDiff, List.length_nil, ite_true, ite_false, and_self, List.contains_nil, regH_none, isNext, nextF, nextG, selC_false]
  refine ⟨fun hb1 => retA_S _ _ _ ?_, fun hb1 => wpA_sound (C := []) (mrg := true) (dyn := []) (CtrOK.nil _) mixed _ _ E _ _ _ none false hr (fun ev H h => h) (by kernel_rfl) (.inl ⟨rfl, rfl⟩) (wpA_mono _ _ _ _ _ (fun e ev H h => retA_S e ev H h) ?_)⟩
  · have h0 : ls = [] := by simpa using hbn hb1
    subst h0
    simp (maxSteps := 4000000) only [Pg.look, alives, aliveO, closeQ_nil, diagQ_zero, retA, resK, tupA, subA, subQ, ptrsE, pairsO, frzO, subF, subG, pickOf, assocN, pairsE, pairsC, pairs0, frzE, frzC, frz0, frzH, Pg.freeze, List.foldl_nil, subOs, subO, subEv, subV_succ, subM, List.getElem?_cons_zero, reduceCtorEq, Nat.reduceEqDiff, List.append_nil, List.length_nil, List.map_nil, ite_true, ite_false, and_self, pickOK_one, Nat.lt_irrefl]
  · simp (maxSteps := 4000000) only [↓wpA_H, ↓wpH_ret, ↓wpH_seq, ↓wpH_region, bselH_false, runH_nil, runH_cons, gw, gselH_plain, ↓chk, justK, noW, ↓oneK, ↓pureK, ↓heapK, ↓thenA_normal, ↓stepEv, opnd, Pg.look, Bool.false_eq_true, implies_true, true_and, and_true, valV, heapV, footV, alives, aliveO, closeQ_nil, diagQ_zero, ofV, ofLeaf, retA, resK, tupA, subA, subQ, ptrsE, pairsO, frzO, subF, subG, pickOf, assocN, pairsE, pairsC, pairs0, frzE, frzC, frz0, frzH, Pg.freeze, List.foldl_nil, subOs, subO, subEv, subV_succ, subM, srcV, srcE, appK, AV.cells, AV.definite, List.getElem?_cons_zero, reduceCtorEq, Nat.reduceEqDiff, List.nil_append, List.append_nil, List.length_nil, List.map_nil, List.set_cons_zero, Nat.zero_add, ite_true, ite_false, Option.isSome_some, not_false_eq_true, List.all_nil, and_self, pickOK_one, List.length_map, not_mem_nil, List.range_zero, leafy_strs, List.contains_nil, Nat.reducePow, Nat.lt_irrefl, Nat.mul_one, Nat.zero_le, regH_none, isNext, nextF, nextG, selC_false, eb9, tk50]
    exact ⟨by omega, .inl ⟨rfl, pureB_strs ls⟩⟩
def kSClone : C1 := C1.by [.sl 1 []] (lOne cStrs) (fun d => d.length ≤ 4398046511104) (fun d => .own 0 1 d.length) (fun d => [.arr 9 1 (d.map .str)])
theorem ok_SClone : C1OK Try.prog 64 kSClone :=
  C1OK.by (by kernel_rfl) (fun d h => calls_SClone d h) (fun _ => rfl) (fun _ => by simp [okObj, AV.pureB, AV.cells, AV.pureLeaf])

set_option maxHeartbeats 4000000 in
theorem calls_RgClone (r : RgV) (hb : r.2.length ≤ 4398046511104) : CallsR Try.prog 54 [aRg r] [] (aRg r) [] := by
  refine callsR_of (mrg := true) (dyn := []) (CtrOK.cons ok_SClone (CtrOK.nil _)) mixed Try.func54 rfl (by simp [Try.ntmps54]) (by kernel_rfl) ?_
  rw [show Try.f54.results.toList = [.cell 2 52] from by kernel_rfl]
  simp (maxSteps := 4000000) only [↓wpA_H, ↓wpH_ret, ↓wpH_seq, ↓wpH_region, bselH_false, runH_nil, runH_cons, gw, gselH_plain, ↓chk, justK, noW, ↓oneK, ↓pureK, ↓heapK, envOf, ↓thenA_normal, ↓stepEv, opnd, Pg.look, Bool.false_eq_true, implies_true, true_and, and_true, valV, heapV, footV, alives, closeQ_nil, diagQ_zero, Nat.reduceAdd, ofV, ofLeaf, retA, resK, tupA, subA, subQ, ptrsE, frzO, subF, subG, pickOf, frzE, frzC, frzL, frz0, frzH, Pg.freeze, List.foldl_nil, List.foldl_cons, subOs, subEv, subV_succ, subM, subL, ldCells, objAt, ↓callT, callC, callV, callH, normArgs, normA, normC, resL, res8_eq, res_succ, resM, shiftR, shift1, AV.cells, TK.cells, AV.definite, AV.leaf, AV.leafy, putCells, lay, buildL, frzAt, List.getElem?_cons_succ, List.getElem?_cons_zero, Option.getD_some, reduceCtorEq, Nat.reduceEqDiff, Nat.reduceAdd, List.nil_append, List.append_nil, List.cons_append, List.length_cons, List.length_nil, List.map_cons, List.map_nil, List.set_cons_zero, List.set_cons_succ, Nat.zero_add, ite_true, ite_false, Option.some.injEq, Option.isSome_some, Option.isSome_none, AV.agg.injEq, List.all_cons, List.all_nil, Bool.and_self, and_self, exists_eq_left', pickOK_nil, List.length_map, cSl_dec, lOne_dec, pureB_strs, resIn, List.contains_cons, List.contains_nil, Bool.or_false, beq_self_eq_true, List.range'_zero, decL_str, C1by_ns, C1by_pre, C1by_r, C1by_H, optP_some, optV_some, optH_some, List.getD_cons_zero, cutL, List.drop_zero, List.drop_succ_cons, List.take_succ_cons, List.take_zero, Nat.add_zero, Nat.sub_zero, Nat.reduceLeDiff, Nat.le_refl, List.drop_nil, List.take_nil, Nat.zero_lt_succ, C1by_it, regH_none, isNext, nextF, nextG, selC_true, selC_false, pureC, ↓msel, muC, ↓callP, C1by_mu, mapAt, List.range'_succ, tk3, tk50, tk52, tz52, dz52, kSClone]
  exact hb
def kRgClone : C1 := C1.by [.ag [none, some 1]] (lOne cRgV) (fun d => d.2.length ≤ 4398046511104) (fun d => aRg d) (fun _ => [])
theorem ok_RgClone : C1OK Try.prog 54 kRgClone := C1OK.by (by kernel_rfl) (fun d h => calls_RgClone d h) (fun _ => rfl) (fun _ => rfl)
end Go.Pg
namespace Go.Pg
open Go Go.Proofs Go.Shelf

theorem VRs.twoR {E : Env} {a b : AV} {vals : Array Value} (h : VRs E [a, b] vals) : ∃ u v, vals = #[u, v] ∧ VR E a u ∧ VR E b v := by
  obtain ⟨hs, hv⟩ := h
  match vals, hs with
  | ⟨[u, v]⟩, _ => exact ⟨u, v, rfl, hv 0 a rfl, hv 1 b rfl⟩
theorem callsR_newR {P : Program} {f : FuncId} {args : List AV} {t : TypeId} {sz : Nat}
    (h : ∀ (E : Env) (vals : Array Value), VRs E args vals → Calls P f vals E.W fun e W' => (e = .returned (.slice none 0 0) ∧ W' = E.W) ∨ ∃ (C : Array Value) (cap : Nat), e = .returned (.slice (some ⟨E.W.heap.size, 0, none⟩) 0 cap) ∧ SameBut E.W W' ∧ W'.heap = E.W.heap.push (.cells C t (0, 0)) ∧ C.size = cap * sz ∧ cap ≤ maxLen) :
    CallsR P f args [] (.own 0 sz 0) [.arr t sz []] := by
  intro E vals hr hv
  have hle : AHle [] [.arr t sz []] := fun id o ho => by simp at ho
  obtain ⟨E1, hr1, hW1, hM1, hst1⟩ := hr.le hle
  have hm0 : E1.M 0 = none := by rw [hM1]; exact hr.dom 0 (Nat.zero_le _)
  refine (h E vals hv).mono fun e W' hh => ?_
  rcases hh with ⟨he, hw⟩ | ⟨C, cap, he, hs, hh, hC, hcap⟩
  · obtain ⟨E', hW, hr', hst, _, hMid, hhl⟩ := alloc_nil hr1 (id := 0) hm0 (e := t) (sz := sz) (o' := .arr t sz []) rfl (AOle.refl _)
    refine ⟨_, E', he, by rw [hW, hW1, hw], .own 0 sz 0 none 0 (by rw [hMid]; rfl) (fun _ => rfl) (fun L hL => ?_), hr', hst1.trans hst⟩
    exact ⟨Nat.zero_le _, fun _ => .inl ⟨hMid, rfl, rfl⟩⟩
  · obtain ⟨E', hW, hr', hst, _, hMid, hhl⟩ := alloc_rel hr1 (id := 0) hm0 (e := t) (sz := sz) (vs := []) rfl (AOle.refl _) (w' := W') (c := C) (fz := (0, 0)) (by rw [hW1]; exact hs) (by rw [hW1]; exact hh) (by simp) (fun k _ hk => by simp at hk) (fun i v hi => by simp at hi)
    refine ⟨_, E', he, hW, .own 0 sz 0 _ cap (by rw [hMid]; rfl) (fun h => by cases h) (fun L hL => ?_), hr', hst1.trans hst⟩
    rw [hr'.hl] at hL
    have : L = 0 := by simpa [hlOf, AO.len] using hL.symm
    subst this
    exact ⟨Nat.le_refl _, fun _ => .inr ⟨E.W.heap.size, C, t, (0, 0), by rw [hMid, hW1], rfl, Nat.zero_le _, hcap, by rw [hW, hh]; simp, hC⟩⟩

def growRenR : Go.Shelf.Ren := ⟨fun | 4 => 63 | n => n, fun | 0 => 0 | 3 => 3 | 4 => 4 | 9 => 9 | 20 => 20 | 22 => 50 | 25 => 9 | n => n, fun | n => n⟩
theorem growLaysR : Lays8.n4 Try.prog growRenR := {
  mixed := by kernel_rfl
  f4 := ⟨Try.f63.name, by decide, Try.func63.trans (congrArg some (by kernel_rfl))⟩
  t0 := Try.underlying0
  a0 := Try.isAgg0
  z0 := Try.sizeOf0
  v0 := Try.zeroValue0
  t3 := Try.underlying3
  a3 := Try.isAgg3
  z3 := Try.sizeOf3
  v3 := Try.zeroValue3
  t4 := Try.underlying4
  a4 := Try.isAgg4
  z4 := Try.sizeOf4
  v4 := Try.zeroValue4
  t9 := Try.underlying9
  a9 := Try.isAgg9
  z9 := Try.sizeOf9
  v9 := Try.zeroValue9
  t20 := Try.underlying20
  a20 := Try.isAgg20
  z20 := Try.sizeOf20
  v20 := Try.zeroValue20
  t22 := Try.underlying50
  a22 := Try.isAgg50
  z22 := Try.sizeOf50
  v22 := Try.zeroValue50 }

theorem calls_GrowR (n : Nat) (h2 : n ≤ 1099511627776) : CallsR Try.prog 63 [.nls, .int .i64 n] [] (.own 0 1 0) [.arr 9 1 []] := by
  refine callsR_newR fun E vals hv => ?_
  obtain ⟨u, v, rfl, k1, k2⟩ := hv.twoR
  rw [k1.nls_inv, k2.int_inv]
  by_cases h1 : 0 < n
  · have hi : ∃ i0 z, Try.prog.info? 9 = some i0 ∧ i0.zero = some z ∧ i0.size = 1 ∧ i0.bytes = 16 ∧ z.cells.size = 1 := by
      have h : (match Try.prog.info? 9 with
        | some i => match i.zero with
          | some z => i.size == 1 && i.bytes == 16 && z.cells.size == 1
          | none => false
        | none => false) = true := by kernel_rfl
      split at h
      · next i hi =>
        split at h
        · next z hz =>
          simp only [Bool.and_eq_true, beq_iff_eq] at h
          exact ⟨i, z, hi, hz, h.1.1, h.1.2, h.2⟩
        · cases h
      · cases h
    obtain ⟨i0, z, hi0, hz, hs1, hb1, hc1⟩ := hi
    refine (Any8.slices_Grow_grow growLaysR i0 z hi0 hz (by omega) none 0 0 n [] E.W (Nat.le_refl _) (by omega) (by rw [hb1]; omega) (by omega) (by simp) (fun _ => rfl) (fun a ha => by cases ha)).mono fun e W' ⟨he, hw⟩ => .inr ?_
    obtain ⟨hsb, hh⟩ := drew_same E.W (.cells (([] : List Value).toArray ++ Builtin.zeroCells z.cells (0 + n - 0) ++ Builtin.zeroCells z.cells (grownCap E.W (0 + n) 0 9 - (0 + n))) 9)
    have hge := grownCap_ge E.W (0 + n) 0 9
    refine ⟨_, grownCap E.W (0 + n) 0 9, he, by rw [hw]; exact hsb, by rw [hw]; exact hh, ?_, grownCap_le_maxLen E.W _ 0 _ (by unfold maxLen; omega)⟩
    rw [Array.size_append, Array.size_append, growZ hc1, growZ hc1]
    simp only [Nat.zero_add] at hge
    simp only [List.size_toArray, List.length_nil, Nat.zero_add, Nat.sub_zero, ← Nat.add_mul]
    rw [show n + (grownCap E.W n 0 9 - n) = grownCap E.W n 0 9 by omega]
  · obtain rfl : n = 0 := by omega
    exact (Any8.slices_Grow_room growLaysR none 0 0 0 E.W (Nat.le_refl _) (by omega) (by omega) (by omega)).mono fun e W' h => .inl h

def kGrowR : C1 := C1.by [.id, .id] (lCons cAny (lOne (cInt .i64))) (fun d => d.1 = .nls ∧ 0 ≤ d.2 ∧ d.2 ≤ 1099511627776) (fun _ => .own 0 1 0) (fun _ => [.arr 9 1 []])
theorem ok_GrowR : C1OK Try.prog 63 kGrowR := C1OK.by (by kernel_rfl) (fun d h => by
  obtain ⟨a, n⟩ := d
  obtain ⟨h1, h2, h3⟩ := h
  simp only at h1 h2 h3
  subst h1
  have := calls_GrowR n.toNat (by omega)
  rw [show ((n.toNat : Nat) : Int) = n by omega] at this
  exact this) (fun _ => rfl) (fun _ => rfl)

def aStrsR (l : LsR) : AV := .sl 1 (l.map .str)
theorem getD_strssR (l : List LsR) (i : Nat) : (l.map aStrsR).getD i (.sl 1 []) = aStrsR (l.getD i []) := getD_map aStrsR l i []
theorem flat_takeR (l : List LsR) (i : Nat) (h : i < l.length) : (l.take (i + 1)).flatten = (l.take i).flatten ++ l.getD i [] := by
  rw [List.take_add_one, List.flatten_append, List.getElem?_eq_getElem h, List.getD_eq_getElem?_getD, List.getElem?_eq_getElem h]
  simp

set_option maxRecDepth 20000 in
set_option maxHeartbeats 4000000 in
theorem calls_ConcatR (l : List LsR) (h1 : l.flatten.length ≤ 1099511627776) (h2 : l.length ≤ 1048576) :
    CallsR Try.prog 50 [.sl 1 (l.map aStrsR)] [] (.sl 1 (l.flatten.map .str)) [] := by
  refine callsR_of (mrg := true) (dyn := []) (CtrOK.cons ok_GrowR (CtrOK.nil _)) mixed Try.func50 rfl (by simp [Try.ntmps50]) (by kernel_rfl) ?_
  rw [show Try.f50.results.toList = [.tmp 2] from by kernel_rfl]
  have hle : ∀ i, (l.take i).flatten.length ≤ l.flatten.length := fun i => by
    have := congrArg (fun x : List LsR => x.flatten.length) (List.take_append_drop i l)
    simp only [List.flatten_append, List.length_append] at this
    omega
  simp (maxSteps := 4000000) only [↓wpA_H, ↓wpH_seq, ↓wpH_block, ↓wpH_loop, ↓wpH_region, bselH_false, runH_nil, runH_cons, gw, gselH_plain, ↓chk, justK, ↓oneK, ↓pureK, envOf, ↓thenA_normal, ↓stepEv, opnd, Pg.look, Bool.false_eq_true, implies_true, true_and, and_true, valV, heapV, footV, ofV, ofLeaf, slen, Option.getD_some, reduceCtorEq, Nat.reduceEqDiff, List.length_nil, ite_true, ite_false, Option.some.injEq, AV.int.injEq, and_self, exists_eq_left', List.length_map, List.contains_nil, regH_none, isNext, nextF, nextG, selC_false, tk102, kGrowR]
  refine loopH_intro (α := Nat) (fun i => ([(0, .sl 1 (l.map aStrsR)), (2, .nls), (3, .int .i64 (l.take i).flatten.length), (9, .sl 1 (l.map aStrsR)), (10, .int .i64 l.length), (11, .int .i64 i)], [])) (fun i => i ≤ l.length) (fun i => l.length - i) 0 (by omega) ?_ ?_
  · simp (maxSteps := 4000000) only [Pg.look, true_and, and_true, alives, closeQ_nil, diagQ_zero, subA, subQ, ptrsE, frzO, subF, subG, pickOf, frzE, frzC, frz0, frzH, Pg.freeze, List.foldl_nil, subOs, subEv, subV_succ, subM, reduceCtorEq, Nat.reduceEqDiff, List.append_nil, ite_true, ite_false, and_self, pickOK_nil, Int.cast_ofNat_Int, List.take_zero]
    all_goals simp
  intro i hi
  by_cases hlt : i < l.length
  · have hct : decide ((i : Int) < l.length) = true := decide_eq_true (by omega)
    have hfl := flat_takeR l i hlt
    have hfl2 : (l.take (i + 1)).flatten.length = (l.take i).flatten.length + (l.getD i []).length := by rw [hfl, List.length_append]
    have hl2 := hle (i + 1)
    have w1 : IntKind.i64.wrap (((l.take i).flatten.length : Int) + ((l.getD i []).length : Int)) = ((l.take (i + 1)).flatten.length : Int) := by rw [wrap64 (by omega) (by omega)]; omega
    have hneg : decide (((l.take (i + 1)).flatten.length : Int) < 0) = false := decide_eq_false (by omega)
    simp (maxSteps := 4000000) only [↓wpA_H, ↓wpH_skip, ↓wpH_seq, ↓wpH_cond, ↓wpH_block, ↓wpH_region, ↓iselH_true, ↓iselH_false, bselH_false, runH_nil, runH_cons, gw, gselH_plain, cselH_bool, ↓chk, justK, noW, ↓oneK, ↓pureK, ↓heapK, ↓thenA_normal, ↓blockA_normal, ↓stepEv, opnd, Pg.look, binK, intOp, Bool.false_eq_true, implies_true, true_and, and_true, valV, heapV, footV, binV, intV, alives, closeQ_nil, diagQ_zero, ofV, ofLeaf, subA, subQ, ptrsE, frzO, subF, subG, pickOf, frzE, frzC, frz0, frzH, Pg.freeze, List.foldl_nil, subOs, subEv, subV_succ, subM, slen, ldCells, AV.cells, TK.cells, List.getElem?_cons_zero, Option.getD_some, reduceCtorEq, Nat.reduceEqDiff, List.append_nil, ite_true, ite_false, Option.some.injEq, AV.int.injEq, and_self, exists_eq_left', pickOK_nil, List.length_map, List.contains_nil, Int.toNat_natCast, regH_none, isNext, nextF, nextG, selC_false, tk50, dz50, tk102, kGrowR, hct, getD_strssR, aStrsR, w1, hneg]
    exact ⟨⟨by omega, hlt⟩, i + 1, by omega, by omega, rfl, by rw [wrap64 (by omega) (by omega)]; rfl⟩
  · have hcf : decide ((i : Int) < l.length) = false := decide_eq_false (by omega)
    have hil : i = l.length := by omega
    subst hil
    rw [List.take_length]
    simp (maxSteps := 4000000) only [↓wpA_H, ↓wpH_exit, ↓wpH_seq, ↓wpH_cond, ↓wpH_block, ↓wpH_loop, ↓wpH_region, ↓iselH_false, bselH_false, runH_nil, runH_cons, gw, gselH_plain, cselH_bool, ↓chk, justK, ↓oneK, ↓pureK, ↓thenA_normal, ↓thenA_exit, ↓blockA_exit, ↓stepEv, opnd, Pg.look, binK, intOp, Bool.false_eq_true, implies_true, true_and, and_true, valV, heapV, footV, binV, intV, ofV, ofLeaf, retA, Pg.freeze, List.foldl_nil, slen, ↓callT, callC, callV, callH, normArgs, normA, resL, res8_eq, res_succ, resM, shiftR, shift1, Option.getD_some, reduceCtorEq, Nat.reduceEqDiff, List.nil_append, List.append_nil, List.length_cons, List.length_nil, List.map_cons, List.map_nil, Nat.zero_add, ite_true, ite_false, Option.some.injEq, AV.int.injEq, and_self, exists_eq_left', List.length_map, cInt_dec, cAny_dec, lOne_dec, lCons_dec, dec2_some, List.contains_nil, List.range'_zero, C1by_ns, C1by_pre, C1by_r, C1by_H, optP_some, optV_some, optH_some, Nat.add_zero, C1by_it, regH_none, isNext, nextF, nextG, selC_false, ↓msel, muC, ↓callP, C1by_mu, List.range'_succ, tk102, kGrowR, hcf]
    refine ⟨⟨by omega, by omega⟩, ?_⟩
    refine loopH_intro (α := Nat) (fun i => ([(2, .nls), (6, .own 0 1 (l.take i).flatten.length), (25, .sl 1 (l.map aStrsR)), (26, .int .i64 l.length), (27, .int .i64 i)], [.arr 9 1 ((l.take i).flatten.map .str)])) (fun i => i ≤ l.length) (fun i => l.length - i) 0 (by omega) ?_ ?_
    · simp (maxSteps := 4000000) only [Pg.look, true_and, and_true, alives, aliveO, closeQ_nil, diagQ_zero, subA, subQ, ptrsE, pairsO, frzO, subF, subG, pickOf, assocN, pairsE, pairsC, pairs0, frzE, frzC, frz0, frzH, Pg.freeze, List.foldl_nil, subOs, subO, subEv, subV_succ, subM, List.getElem?_cons_zero, reduceCtorEq, Nat.reduceEqDiff, List.nil_append, List.append_nil, ite_true, ite_false, and_self, pickOK_one, Int.cast_ofNat_Int, List.take_zero, Nat.lt_irrefl]
      exact ⟨subX_eq rfl rfl, rfl⟩
    intro i hi
    by_cases hlt : i < l.length
    · have hct : decide ((i : Int) < l.length) = true := decide_eq_true (by omega)
      have hfl := flat_takeR l i hlt
      have hfl2 : (l.take (i + 1)).flatten.length = (l.take i).flatten.length + (l.getD i []).length := by rw [hfl, List.length_append]
      have hl2 := hle (i + 1)
      simp (maxSteps := 4000000) only [↓wpA_H, ↓wpH_skip, ↓wpH_seq, ↓wpH_cond, ↓wpH_block, ↓wpH_region, ↓iselH_true, bselH_false, runH_nil, runH_cons, gw, gselH_plain, cselH_bool, ↓chk, justK, noW, ↓oneK, ↓pureK, ↓heapK, ↓thenA_normal, ↓blockA_normal, ↓stepEv, opnd, Pg.look, binK, intOp, Bool.false_eq_true, implies_true, true_and, and_true, valV, heapV, footV, binV, intV, alives, aliveO, closeQ_nil, diagQ_zero, ofV, ofLeaf, subA, subQ, ptrsE, pairsO, frzO, subF, subG, pickOf, assocN, pairsE, pairsC, pairs0, frzE, frzC, frz0, frzH, Pg.freeze, List.foldl_nil, subOs, subO, subEv, subV_succ, subM, srcV, srcE, appK, ldCells, AV.cells, TK.cells, List.getElem?_cons_zero, Option.getD_some, Nat.reduceEqDiff, List.nil_append, List.append_nil, List.set_cons_zero, ite_true, ite_false, Option.some.injEq, not_false_eq_true, and_self, exists_eq_left', pickOK_one, List.length_map, not_mem_nil, app_strs, leafy_strs, List.contains_nil, Int.toNat_natCast, Nat.lt_irrefl, regH_none, isNext, nextF, nextG, selC_false, eb9, tk50, dz50, tk102, kGrowR, hct, getD_strssR, aStrsR]
      exact ⟨⟨by omega, hlt⟩, by omega, i + 1, by omega, by omega, subX_eq (by rw [hfl]) (pureB_strs _), hfl2.symm, by rw [wrap64 (by omega) (by omega)]; rfl⟩
    · have hcf : decide ((i : Int) < l.length) = false := decide_eq_false (by omega)
      have hil : i = l.length := by omega
      subst hil
      rw [List.take_length]
      simp (maxSteps := 4000000) only [↓wpA_H, ↓wpH_ret, ↓wpH_exit, ↓wpH_seq, ↓wpH_cond, ↓wpH_region, ↓iselH_false, bselH_false, runH_nil, runH_cons, gw, gselH_plain, cselH_bool, ↓chk, justK, ↓oneK, ↓pureK, ↓thenA_normal, ↓thenA_exit, ↓blockA_exit, ↓stepEv, opnd, Pg.look, binK, intOp, Bool.false_eq_true, implies_true, valV, heapV, footV, binV, intV, alives, closeQ_nil, diagQ_zero, retA, resK, tupA, subA, subQ, ptrsE, frzO, subF, subG, pickOf, frzE, frzC, frz0, frzH, Pg.freeze, List.foldl_nil, List.foldl_cons, subOs, subEv, subV_succ, subM, objAt, res_succ, resM, frzAt, List.getElem?_cons_zero, Nat.reduceEqDiff, List.append_nil, List.length_nil, List.set_cons_zero, ite_true, ite_false, List.all_cons, List.all_nil, Bool.and_self, and_self, pickOK_nil, List.length_map, pureB_strs, resIn, List.contains_cons, List.contains_nil, Bool.or_false, beq_self_eq_true, regH_none, isNext, nextF, nextG, selC_false, kGrowR, hcf]

def kConcatR : C1 := C1.by [.sl 1 [some 1]] (lOne (cSl 1 cStrs)) (fun d => d.flatten.length ≤ 1099511627776 ∧ d.length ≤ 1048576) (fun d => .sl 1 (d.flatten.map .str)) (fun _ => [])
theorem ok_ConcatR : C1OK Try.prog 50 kConcatR := C1OK.by (by kernel_rfl) (fun d h => calls_ConcatR d h.1 h.2) (fun _ => rfl) (fun _ => rfl)
end Go.Pg
namespace Go.Pg
open Go Go.Proofs

theorem subX_one {H : AH} {F : List Nat} {pick : List (Option Nat)} {x y : AV} (h : subL (subV H F pick 8) x.cells y.cells) : subX H F pick [x] [y] := .inr ⟨h, trivial⟩

/-! ### Where a line is behind a change -/
end Go.Pg
namespace Go.Pg
open Go Go.Proofs

/-- Put into a list that is in order. -/
def zSet {ν : Type} (b : UInt8) (p : ν) : List (UInt8 × ν) → List (UInt8 × ν)
  | [] => [(b, p)]
  | x :: r => if x.1.toNat < b.toNat then x :: zSet b p r else if x.1 = b then (b, p) :: r else (b, p) :: x :: r

theorem look1_isSome {ν : Type} (k : UInt8) : ∀ l : List (UInt8 × ν), (look1 k l).isSome = true ↔ k ∈ l.map (·.1) := by
  intro l
  induction l with
  | nil => simp [look1]
  | cons x r ih =>
    simp only [look1, List.map_cons, List.mem_cons]
    split
    · next hk => simp [hk]
    · next hk => rw [ih]; exact ⟨.inr, fun h => h.resolve_left (fun e => hk e.symm)⟩
theorem look1_upd {ν : Type} (k b : UInt8) (p : ν) : ∀ l : List (UInt8 × ν), look1 k (upd b p l) = if b = k then some p else look1 k l := by
  intro l
  induction l with
  | nil => simp only [upd, look1]
  | cons x r ih =>
    simp only [upd]
    split
    · next hx =>
      simp only [look1]
      split
      · rfl
      · next hb => rw [if_neg (fun e => hb (hx ▸ e))]
    · next hx =>
      simp only [look1, ih]
      split
      · next hk => rw [if_neg (fun e => hx (hk.trans e.symm))]
      · rfl
theorem upd_keys {ν : Type} (b : UInt8) (p : ν) : ∀ l : List (UInt8 × ν), (l.map (·.1)).Nodup → ((upd b p l).map (·.1)).Nodup := by
  intro l
  have mem : ∀ (l : List (UInt8 × ν)) k, k ∈ (upd b p l).map (·.1) → k = b ∨ k ∈ l.map (·.1) := by
    intro l k hk
    have := (look1_isSome k (upd b p l)).2 hk
    rw [look1_upd] at this
    split at this
    · next h => exact .inl h.symm
    · exact .inr ((look1_isSome k l).1 this)
  induction l with
  | nil => intro _; simp [upd]
  | cons x r ih =>
    intro h
    obtain ⟨hx, hr⟩ := List.nodup_cons.1 h
    simp only [upd]
    split
    · next hb =>
      refine List.nodup_cons.2 ⟨?_, hr⟩
      rw [← hb]; exact hx
    · next hb =>
      refine List.nodup_cons.2 ⟨fun hm => ?_, ih hr⟩
      rcases mem r x.1 hm with h | h
      · exact hb h
      · exact hx h
theorem look1_zSet {ν : Type} (k b : UInt8) (p : ν) : ∀ l : List (UInt8 × ν), l.Pairwise (fun x y => x.1.toNat < y.1.toNat) → look1 k (zSet b p l) = if b = k then some p else look1 k l := by
  intro l
  induction l with
  | nil => intro _; simp only [zSet, look1]
  | cons x r ih =>
    intro hp
    obtain ⟨hx, hr⟩ := List.pairwise_cons.1 hp
    simp only [zSet]
    split
    · next hlt =>
      simp only [look1, ih hr]
      split
      · next hk =>
        rw [if_neg (fun e => by rw [e, ← hk] at hlt; omega)]
      · rfl
    · next hlt =>
      split
      · next he =>
        simp only [look1]
        split
        · rfl
        · next hb => rw [if_neg (fun e => hb (he ▸ e))]
      · next he => simp only [look1]
theorem zSet_asc {ν : Type} (b : UInt8) (p : ν) : ∀ l : List (UInt8 × ν), l.Pairwise (fun x y => x.1.toNat < y.1.toNat) → (zSet b p l).Pairwise (fun x y => x.1.toNat < y.1.toNat) := by
  intro l
  have all : ∀ (l : List (UInt8 × ν)) (n : Nat), n < b.toNat → (∀ y ∈ l, n < y.1.toNat) → ∀ y ∈ zSet b p l, n < y.1.toNat := by
    intro l n hn
    induction l with
    | nil => intro _ y hy; simp only [zSet, List.mem_singleton] at hy; subst hy; exact hn
    | cons x r ih =>
      intro h y hy
      simp only [zSet] at hy
      split at hy
      · rcases List.mem_cons.1 hy with rfl | hy
        · exact h _ List.mem_cons_self
        · exact ih (fun y hy => h y (List.mem_cons_of_mem _ hy)) y hy
      · split at hy
        · rcases List.mem_cons.1 hy with rfl | hy
          · exact hn
          · exact h y (List.mem_cons_of_mem _ hy)
        · rcases List.mem_cons.1 hy with rfl | hy
          · exact hn
          · exact h y hy
  induction l with
  | nil => intro _; simp [zSet]
  | cons x r ih =>
    intro hp
    obtain ⟨hx, hr⟩ := List.pairwise_cons.1 hp
    simp only [zSet]
    split
    · next hlt => exact List.pairwise_cons.2 ⟨all r _ hlt hx, ih hr⟩
    · next hlt =>
      split
      · next he => exact List.pairwise_cons.2 ⟨fun y hy => by have := hx y hy; rw [he] at this; exact this, hr⟩
      · next he =>
        have hne : b.toNat ≠ x.1.toNat := fun e => he (UInt8.toNat_inj.1 e.symm)
        refine List.pairwise_cons.2 ⟨fun y hy => ?_, hp⟩
        rcases List.mem_cons.1 hy with rfl | hy
        · show b.toNat < _; omega
        · have := hx y hy; show b.toNat < _; omega

/-- The map and the list say the same. -/
structure Rm {ν : Type} (m z : List (UInt8 × ν)) : Prop where
  nd : (m.map (·.1)).Nodup
  asc : z.Pairwise (fun x y => x.1.toNat < y.1.toNat)
  get : ∀ k, look1 k z = look1 k m
theorem Rm.nil {ν : Type} : Rm ([] : List (UInt8 × ν)) [] := ⟨List.nodup_nil, List.Pairwise.nil, fun _ => rfl⟩
theorem Rm.set {ν : Type} {m z : List (UInt8 × ν)} (h : Rm m z) (b : UInt8) (p : ν) : Rm (upd b p m) (zSet b p z) :=
  ⟨upd_keys b p m h.nd, zSet_asc b p z h.asc, fun k => by rw [look1_zSet k b p z h.asc, look1_upd, h.get]⟩
theorem Rm.mem {ν : Type} {m z : List (UInt8 × ν)} (h : Rm m z) (k : UInt8) : k ∈ z.map (·.1) ↔ k ∈ m.map (·.1) := by
  rw [← look1_isSome, ← look1_isSome, h.get]
theorem Rm.znd {ν : Type} {m z : List (UInt8 × ν)} (h : Rm m z) : (z.map (·.1)).Nodup := by
  refine (List.Pairwise.map _ (fun x y hxy => ?_) h.asc : (z.map (·.1)).Pairwise (· ≠ ·))
  intro e
  rw [e] at hxy
  omega
theorem Rm.perm {ν : Type} {m z : List (UInt8 × ν)} (h : Rm m z) : (m.map (·.1)).Perm (z.map (·.1)) :=
  (List.perm_ext_iff_of_nodup h.nd h.znd).2 fun k => (h.mem k).symm
theorem Rm.len {ν : Type} {m z : List (UInt8 × ν)} (h : Rm m z) : m.length = z.length := by
  have := h.perm.length_eq
  simpa using this
theorem asc_len {ν : Type} (hi : Nat) : ∀ (z : List (UInt8 × ν)) (lo : Nat), z.Pairwise (fun x y => x.1.toNat < y.1.toNat) → (∀ x ∈ z, lo ≤ x.1.toNat ∧ x.1.toNat < hi) → z.length ≤ hi - lo := by
  intro z
  induction z with
  | nil => intro lo _ _; exact Nat.zero_le _
  | cons x r ih =>
    intro lo hp ha
    obtain ⟨hx, hr⟩ := List.pairwise_cons.1 hp
    have h0 := ha x List.mem_cons_self
    have := ih (lo + 1) hr (fun y hy => ⟨by have := hx y hy; omega, (ha y (List.mem_cons_of_mem _ hy)).2⟩)
    rw [List.length_cons]
    omega
theorem zip_self {α β : Type} (z : List (α × β)) : (z.map (fun x => x.1)).zip (z.map (fun x => x.2)) = z := by
  induction z with
  | nil => rfl
  | cons x r ih => simp [ih]
theorem keys_upd {ν : Type} (b : UInt8) (p : ν) (m : List (UInt8 × ν)) (k : UInt8) : k ∈ (upd b p m).map (·.1) ↔ k = b ∨ k ∈ m.map (·.1) := by
  rw [← look1_isSome, look1_upd]
  split
  · next h => simp [h]
  · next h => rw [look1_isSome]; exact ⟨.inr, fun e => e.resolve_left (fun e => h e.symm)⟩

end Go.Pg
