/- Ranges: which may be, which bytes of a line they have. Changes of each of some lines. Blanks ahead are taken away; lines are joined. A byte over others. Lines are joined, by the document. A range is taken out. -/
import Derived.Test.YtombifgcpghkgaaPgFx1
import Derived.Test.YtombifgcpghkgaaPgShf
import Derived.Test.YtombifgcpghkgaaPgLib
import Derived.Shelf.Strings.SlTrimAscii
namespace Go.Pg
open Go Go.Proofs

abbrev Rg := Int × Int × Int × Int × Int
def aRg (r : Rg) : AV := .agg [.int .i64 r.1, .int .i64 r.2.1, .int .i64 r.2.2.1, .int .i64 r.2.2.2.1, .int .i64 r.2.2.2.2]
abbrev lRg : CdL Rg := lCons (cInt .i64) (lCons (cInt .i64) (lCons (cInt .i64) (lCons (cInt .i64) (lOne (cInt .i64)))))
abbrev cRg : Cd Rg := cAgg lRg

def valid (ls : Ls) (r : Rg) : Bool :=
  !(decide (r.2.1 < 0) || decide (r.2.1 > r.2.2.2.1) || decide (r.2.2.2.1 ≥ ls.length)) &&
  (if (r.1 == 0) = true then place ls r.2.1 r.2.2.1 && place ls r.2.2.2.1 r.2.2.2.2 && !less (r.2.2.2.1, r.2.2.2.2) (r.2.1, r.2.2.1)
   else if (r.1 == 1) = true then true else if (r.1 == 2) = true then decide (r.2.2.1 ≥ 0) && decide (r.2.2.1 ≤ r.2.2.2.2) else false)

/-- Which bytes of a line of so many: from, up to. -/
def cols (n : Nat) (r : Rg) (i : Int) : Int × Int :=
  if (r.1 == 0) = true then ((if (i == r.2.1) = true then r.2.2.1 else 0), (if (i == r.2.2.2.1) = true then r.2.2.2.2 else n))
  else if (r.1 == 2) = true then (min r.2.2.1 n, min r.2.2.2.2 ((n : Int) - 1) + 1) else (0, n)

set_option maxHeartbeats 4000000 in
theorem calls_Valid (ls : Ls) (r : Rg) : CallsR Try.prog 28 [.sl 1 (ls.map .str), aRg r] [] (.bool (valid ls r)) [] := by
  obtain ⟨k, f1, f2, t1, t2⟩ := r
  refine callsR_of (mrg := true) (dyn := []) (CtrOK.cons ok_CPlace (CtrOK.cons ok_Less (CtrOK.nil _))) mixed Try.func28 rfl (by simp [Try.ntmps28]) (by kernel_rfl) ?_
  rw [show Try.f28.results.toList = [.tmp 4] from by kernel_rfl]
  simp (maxSteps := 4000000) only [↓wpA_H, ↓wpH_skip, ↓wpH_ret, ↓wpH_seq, ↓wpH_cond, ↓wpH_block, ↓wpH_region, iselH_if, bselH_false, runH_nil, runH_cons, gw, gselH_plain, gselH_if, kselH_1, cselH_bool, gkind, ↓chk, justK, noW, ↓oneK, ↓pureK, ↓heapK, envOf, ↓thenA_normal, ↓thenA_ret, ↓blockA_normal, ↓blockA_ret, ↓stepEv, opnd, Pg.look, binK, intOp, dstOf, Bool.false_eq_true, false_implies, implies_true, imp_self, true_and, and_true, pickC, pickV, unc, gof, mux, mergeK, condsL, valV, heapV, footV, binV, intV, mergeable, look_stripE, ofV, ofLeaf, sameK, retA, resK, tupA, subA, subQ, ptrsE, frzO, subF, subG, pickOf, frzE, frzC, frz0, frzH, Pg.freeze, List.foldl_nil, subOs, subEv, subV_succ, subM, slen, ldCells, objAt, ↓callT, callC, callV, callH, normArgs, normA, normC, resL, res8_eq, res_succ, resM, shiftR, shift1, AV.cells, TK.cells, AV.definite, Op.operands, Call.operands, Array.toList_append, List.getElem?_toArray, List.getElem?_cons_succ, List.getElem?_cons_zero, Option.bind_some, Option.getD_some, reduceCtorEq, Nat.reduceEqDiff, Nat.reduceAdd, Nat.reduceSub, List.nil_append, List.append_nil, List.cons_append, List.length_cons, List.length_nil, List.map_cons, List.map_nil, Nat.zero_add, ite_true, ite_false, Option.some.injEq, AV.int.injEq, Prod.mk.injEq, Bool.if_false_right, Bool.if_true_left, Bool.decide_eq_true, decide_eq_true_eq, decide_eq_false_iff_not, Int.not_le, Int.not_lt, Bool.and_self, and_self, Bool.not_eq_true', exists_eq_left', pickOK_nil, List.length_map, cInt_dec, List.toList_toArray, cSl_dec, cAgg_dec, lOne_dec, lCons_dec, dec2_some, List.contains_nil, List.range'_zero, decL_str, C1by_ns, C1by_pre, C1by_r, C1by_H, optP_some, optV_some, optH_some, List.getD_cons_zero, cutL, List.drop_zero, List.drop_succ_cons, List.take_succ_cons, List.take_zero, Nat.add_zero, Nat.reduceLeDiff, Nat.le_refl, List.take_nil, Nat.zero_lt_succ, tk3, tk22, tk27, tk29, dz29, aRg, kRPlace, kLess]
  refine ⟨fun h => ?_, fun h => ⟨fun h1 => ?_, fun h1 => ⟨fun h2 => ?_, fun h2 => ⟨fun h3 => ?_, fun h3 => ?_⟩⟩⟩⟩
  all_goals simp only [valid, *, Bool.not_true, Bool.not_false, Bool.false_and, Bool.true_and, if_true, Bool.false_eq_true, if_false]

set_option maxHeartbeats 4000000 in
theorem calls_RValid (ls : Ls) (r : Rg) : CallsR Try.prog 35 [.sl 1 (ls.map .str), aRg r] [] (.bool (valid ls r)) [] := by
  obtain ⟨k, f1, f2, t1, t2⟩ := r
  refine callsR_of (mrg := true) (dyn := []) (CtrOK.cons ok_R5Place (CtrOK.cons ok_RLess (CtrOK.nil _))) mixed Try.func35 rfl (by simp [Try.ntmps35]) (by kernel_rfl) ?_
  rw [show Try.f35.results.toList = [.tmp 4] from by kernel_rfl]
  simp (maxSteps := 4000000) only [↓wpA_H, ↓wpH_skip, ↓wpH_ret, ↓wpH_seq, ↓wpH_cond, ↓wpH_block, ↓wpH_region, iselH_if, bselH_false, runH_nil, runH_cons, gw, gselH_plain, gselH_if, kselH_1, cselH_bool, gkind, ↓chk, justK, noW, ↓oneK, ↓pureK, ↓heapK, envOf, ↓thenA_normal, ↓thenA_ret, ↓blockA_normal, ↓blockA_ret, ↓stepEv, opnd, Pg.look, binK, intOp, dstOf, Bool.false_eq_true, false_implies, implies_true, imp_self, true_and, and_true, pickC, pickV, unc, gof, mux, mergeK, condsL, valV, heapV, footV, binV, intV, mergeable, look_stripE, ofV, ofLeaf, sameK, retA, resK, tupA, subA, subQ, ptrsE, frzO, subF, subG, pickOf, frzE, frzC, frz0, frzH, Pg.freeze, List.foldl_nil, subOs, subEv, subV_succ, subM, slen, ldCells, objAt, ↓callT, callC, callV, callH, normArgs, normA, normC, resL, res8_eq, res_succ, resM, shiftR, shift1, AV.cells, TK.cells, AV.definite, Op.operands, Call.operands, Array.toList_append, List.getElem?_toArray, List.getElem?_cons_succ, List.getElem?_cons_zero, Option.bind_some, Option.getD_some, reduceCtorEq, Nat.reduceEqDiff, Nat.reduceAdd, Nat.reduceSub, List.nil_append, List.append_nil, List.cons_append, List.length_cons, List.length_nil, List.map_cons, List.map_nil, Nat.zero_add, ite_true, ite_false, Option.some.injEq, AV.int.injEq, Prod.mk.injEq, Bool.if_false_right, Bool.if_true_left, Bool.decide_eq_true, decide_eq_true_eq, decide_eq_false_iff_not, Int.not_le, Int.not_lt, Bool.and_self, and_self, Bool.not_eq_true', exists_eq_left', pickOK_nil, List.length_map, cInt_dec, List.toList_toArray, cSl_dec, cAgg_dec, lOne_dec, lCons_dec, dec2_some, List.contains_nil, List.range'_zero, decL_str, C1by_ns, C1by_pre, C1by_r, C1by_H, optP_some, optV_some, optH_some, List.getD_cons_zero, cutL, List.drop_zero, List.drop_succ_cons, List.take_succ_cons, List.take_zero, Nat.add_zero, Nat.reduceLeDiff, Nat.le_refl, List.take_nil, Nat.zero_lt_succ, tk3, tk22, tk27, tk29, dz29, aRg, kRPlace, kLess]
  rw [show (decide (f1 < 0) || decide (t1 ≥ (ls.length : Int)) || decide (f1 > t1)) = (decide (f1 < 0) || decide (f1 > t1) || decide (t1 ≥ (ls.length : Int))) by rw [Bool.or_assoc, Bool.or_assoc, Bool.or_comm (decide (t1 ≥ (ls.length : Int)))]]
  refine ⟨fun h => ?_, fun h => ⟨fun h1 => ?_, fun h1 => ⟨fun h2 => ?_, fun h2 => ⟨fun h3 => ?_, fun h3 => ?_⟩⟩⟩⟩
  all_goals simp only [valid, *, Bool.not_true, Bool.not_false, Bool.false_and, Bool.true_and, if_true, Bool.false_eq_true, if_false]

def kValid : C1 := C1.by [.sl 1 [], .id] (lCons cStrs (lOne cRg)) (fun _ => True) (fun d => .bool (valid d.1 d.2)) (fun _ => [])
theorem ok_Valid : C1OK Try.prog 28 kValid := C1OK.by (by kernel_rfl) (fun d _ => calls_Valid d.1 d.2) (fun _ => rfl) (fun _ => rfl)
theorem ok_RValid : C1OK Try.prog 35 kValid := C1OK.by (by kernel_rfl) (fun d _ => calls_RValid d.1 d.2) (fun _ => rfl) (fun _ => rfl)

set_option maxHeartbeats 4000000 in
theorem calls_Columns (ls : Ls) (r : Rg) (i : Int) (h1 : 0 ≤ i ∧ i < ls.length) (hs : ∀ i, (ls.getD i []).length ≤ 140737488355328) (hr : (r.1 == 2) = true → 0 ≤ r.2.2.2.2) :
    CallsR Try.prog 42 [.sl 1 (ls.map .str), aRg r, .int .i64 i] [] (.tuple [.int .i64 (cols (ls.getD i.toNat []).length r i).1, .int .i64 (cols (ls.getD i.toNat []).length r i).2]) [] := by
  obtain ⟨k, f1, f2, t1, t2⟩ := r
  refine callsR_of (mrg := true) (dyn := []) (CtrOK.nil _) mixed Try.func42 rfl (by simp [Try.ntmps42]) (by kernel_rfl) ?_
  rw [show Try.f42.results.toList = [.tmp 6, .tmp 7] from by kernel_rfl]
  simp (maxSteps := 4000000) only [↓wpA_H, ↓wpH_skip, ↓wpH_ret, ↓wpH_seq, ↓wpH_cond, ↓wpH_block, ↓wpH_region, iselH_if, bselH_false, runH_nil, runH_cons, gw, gselH_plain, cselH_bool, ↓chk, justK, noW, ↓oneK, ↓pureK, ↓heapK, envOf, ↓thenA_normal, ↓blockA_normal, ↓stepEv, opnd, Pg.look, binK, intOp, Bool.false_eq_true, implies_true, true_and, and_true, valV, heapV, footV, binV, intV, ofV, ofLeaf, retA, resK, tupA, subA, subQ, ptrsE, frzO, subF, subG, pickOf, frzE, frzC, frzL, frz0, frzH, Pg.freeze, List.foldl_nil, subOs, subEv, subV_succ, subM, subL, ldCells, objAt, AV.cells, TK.cells, AV.definite, foldInts, List.getElem?_cons_succ, List.getElem?_cons_zero, Option.getD_some, reduceCtorEq, Nat.reduceEqDiff, Nat.reduceAdd, List.nil_append, List.append_nil, List.length_cons, List.length_nil, List.map_cons, List.map_nil, Nat.zero_add, ite_true, ite_false, Option.some.injEq, AV.int.injEq, and_self, exists_eq_left', pickOK_nil, List.length_map, List.contains_nil, getD_str, List.getD_cons_zero, Nat.add_zero, Nat.zero_lt_succ, tk3, tk9, dz9, tk22, tk27, tk29, dz29, aRg]
  have hl := hs i.toNat
  simp only at hr
  refine ⟨⟨h1.1, by omega⟩, fun h2 => ⟨fun h3 => ⟨fun h4 => ?_, fun h4 => ?_⟩, fun h3 => ⟨fun h4 => ?_, fun h4 => ?_⟩⟩, fun h2 => ⟨fun h3 => ?_, fun h3 => ?_⟩⟩
  case refine_5 =>
    simp only [cols, h2, h3, if_true, Bool.false_eq_true, if_false]
    have := hr h3
    rw [wrap64 (n := ((ls.getD i.toNat []).length : Int) - 1) (by omega) (by omega), wrap64 (by omega) (by omega)]
    simp
  all_goals simp only [cols, *, if_true, Bool.false_eq_true, if_false, and_self]

def kColumns : C1 := C1.by [.sl 1 [], .id, .id] (lCons cStrs (lCons cRg (lOne (cInt .i64)))) (fun d => (0 ≤ d.2.2 ∧ d.2.2 < d.1.length) ∧ (∀ i, (d.1.getD i []).length ≤ 140737488355328) ∧ ((d.2.1.1 == 2) = true → 0 ≤ d.2.1.2.2.2.2))
  (fun d => .tuple [.int .i64 (cols (d.1.getD d.2.2.toNat []).length d.2.1 d.2.2).1, .int .i64 (cols (d.1.getD d.2.2.toNat []).length d.2.1 d.2.2).2]) (fun _ => [])
theorem ok_Columns : C1OK Try.prog 42 kColumns := C1OK.by (by kernel_rfl) (fun d h => calls_Columns d.1 d.2.1 d.2.2 h.1 h.2.1 h.2.2) (fun _ => rfl) (fun _ => rfl)

/-- Of a block, by the document. -/
def rcols (n : Nat) (r : Rg) : Int × Int := (min r.2.2.1 n, max (min r.2.2.1 n) (if r.2.2.2.2 < n then r.2.2.2.2 + 1 else n))

set_option maxHeartbeats 4000000 in
theorem calls_Cols (s : List UInt8) (r : Rg) (h : s.length ≤ 140737488355328) (hr : 0 ≤ r.2.2.2.2) :
    CallsR Try.prog 36 [.str s, aRg r] [] (.tuple [.int .i64 (rcols s.length r).1, .int .i64 (rcols s.length r).2]) [] := by
  obtain ⟨k, f1, f2, t1, t2⟩ := r
  refine callsR_of (mrg := true) (dyn := []) (CtrOK.nil _) mixed Try.func36 rfl (by simp [Try.ntmps36]) (by kernel_rfl) ?_
  rw [show Try.f36.results.toList = [.tmp 4, .tmp 5] from by kernel_rfl]
  simp (maxSteps := 4000000) only [↓wpA_H, ↓wpH_skip, ↓wpH_ret, ↓wpH_seq, ↓wpH_cond, ↓wpH_region, iselH_if, bselH_false, runH_nil, runH_cons, gw, gselH_plain, cselH_bool, ↓chk, justK, noW, ↓oneK, ↓pureK, ↓heapK, envOf, ↓thenA_normal, ↓stepEv, opnd, Pg.look, binK, intOp, Bool.false_eq_true, implies_true, true_and, and_true, valV, heapV, footV, binV, intV, ofV, ofLeaf, retA, resK, tupA, subA, subQ, ptrsE, frzO, subF, subG, pickOf, frzE, frzC, frzL, frz0, frzH, Pg.freeze, List.foldl_nil, subOs, subEv, subV_succ, subM, subL, ldCells, objAt, AV.cells, TK.cells, AV.definite, foldInts, List.getElem?_cons_succ, List.getElem?_cons_zero, Option.getD_some, reduceCtorEq, Nat.reduceEqDiff, Nat.reduceAdd, List.nil_append, List.append_nil, List.length_cons, List.length_nil, List.map_cons, List.map_nil, Nat.zero_add, ite_true, ite_false, Option.some.injEq, AV.int.injEq, decide_eq_true_eq, decide_eq_false_iff_not, Int.not_lt, and_self, exists_eq_left', pickOK_nil, List.contains_nil, List.getD_cons_zero, Nat.zero_lt_succ, tk3, tk9, tk27, tk29, dz29, aRg, rcols]
  simp only at hr
  refine ⟨fun h1 => ?_, fun h1 => ?_⟩
  · rw [if_pos h1, wrap64 (by omega) (by omega)]
  · rw [if_neg (by omega)]

def kRCols : C1 := C1.by [.id, .id] (lCons cStr (lOne cRg)) (fun d => d.1.length ≤ 140737488355328 ∧ 0 ≤ d.2.2.2.2.2) (fun d => .tuple [.int .i64 (rcols d.1.length d.2).1, .int .i64 (rcols d.1.length d.2).2]) (fun _ => [])
theorem ok_RCols : C1OK Try.prog 36 kRCols := C1OK.by (by kernel_rfl) (fun d h => calls_Cols d.1 d.2 h.1 h.2) (fun _ => rfl) (fun _ => rfl)

/-- What a range that may be has of a line lies in it. -/
theorem cols_ok {ls : Ls} {r : Rg} (h : valid ls r = true) (i : Int) (h1 : r.2.1 ≤ i) (h2 : i ≤ r.2.2.2.1) :
    0 ≤ i ∧ i < ls.length ∧ 0 ≤ (cols (ls.getD i.toNat []).length r i).1 ∧ (cols (ls.getD i.toNat []).length r i).1 ≤ (cols (ls.getD i.toNat []).length r i).2 ∧ (cols (ls.getD i.toNat []).length r i).2 ≤ (ls.getD i.toNat []).length := by
  obtain ⟨k, f1, f2, t1, t2⟩ := r
  simp only at h1 h2
  simp only [valid, Bool.and_eq_true, Bool.not_eq_true', Bool.or_eq_false_iff, decide_eq_false_iff_not] at h
  obtain ⟨⟨⟨a1, a2⟩, a3⟩, hk⟩ := h
  refine ⟨by omega, by omega, ?_⟩
  simp only [cols]
  by_cases k0 : (k == 0) = true
  · rw [if_pos k0] at hk ⊢
    simp only [Bool.and_eq_true, Bool.not_eq_true'] at hk
    obtain ⟨⟨b1, b2⟩, b3⟩ := hk
    rw [place_iff] at b1 b2
    simp only [less, Bool.or_eq_false_iff, decide_eq_false_iff_not, Bool.and_eq_false_imp, beq_iff_eq] at b3
    by_cases e1 : i = f1 <;> by_cases e2 : i = t1
    · subst e1; subst e2
      simp only [beq_self_eq_true, if_true]
      have := b3.2 rfl
      omega
    · subst e1
      simp only [beq_self_eq_true, if_true, beq_eq_false_iff_ne.2 e2, Bool.false_eq_true, if_false]
      omega
    · subst e2
      simp only [beq_self_eq_true, if_true, beq_eq_false_iff_ne.2 e1, Bool.false_eq_true, if_false]
      omega
    · simp only [beq_eq_false_iff_ne.2 e1, beq_eq_false_iff_ne.2 e2, Bool.false_eq_true, if_false]
      omega
  · rw [if_neg k0] at hk ⊢
    by_cases k2 : (k == 2) = true
    · have k1 : ¬ (k == 1) = true := by
        simp only [beq_iff_eq] at k2 ⊢; omega
      rw [if_neg k1, if_pos k2] at hk
      rw [if_pos k2]
      simp only [Bool.and_eq_true, decide_eq_true_eq] at hk
      omega
    · rw [if_neg k2]
      simp only
      omega

theorem cols_block {n : Nat} {r : Rg} {i : Int} (h : r.1 = 2) (h1 : 0 ≤ r.2.2.1) (h2 : r.2.2.1 ≤ r.2.2.2.2) : cols n r i = rcols n r := by
  obtain ⟨k, f1, f2, t1, t2⟩ := r
  simp only at h h1 h2
  subst h
  simp only [cols, rcols]
  rw [if_neg (by decide), if_pos (by decide)]
  congr 1
  split <;> omega
end Go.Pg
namespace Go.Pg
open Go Go.Proofs

/-- Each of the lines from one to another. -/
def eachL (f t : Int) (g : Int → List UInt8) : Ls := (List.range (t + 1 - f).toNat).map fun k : Nat => g (f + k)

/-- A closure that is handed a line's number. -/
def kLineFn (caps : List AV) (f t : Int) (g : Int → List UInt8) : C1 := ⟨[], fun l => match l with
  | .int .i64 i :: r => f ≤ i ∧ i ≤ t ∧ r = caps
  | _ => False, fun l => match l with
  | .int .i64 i :: _ => .str (g i)
  | _ => .top, fun _ => []⟩

theorem kLineFn_ok {P : Program} {fid : Nat} {caps : List AV} {f t : Int} {g : Int → List UInt8} (hc : cal P fid = true)
    (hg : ∀ i : Int, f ≤ i → i ≤ t → CallsR P fid (.int .i64 i :: caps) [] (.str (g i)) []) : C1OK P fid (kLineFn caps f t g) := by
  refine ⟨hc, fun l h => ?_⟩
  simp only [kLineFn] at h ⊢
  split at h
  · next i r =>
    obtain ⟨a, b, rfl⟩ := h
    exact ⟨hg i a b, rfl, rfl⟩
  · exact h.elim

set_option maxHeartbeats 4000000 in
theorem calls_each (ls : Ls) (f t : Int) (fid : Nat) (caps : List AV) (g : Int → List UInt8) (h0 : 0 ≤ f) (h1 : f ≤ t + 1) (h2 : t < ls.length) (hs : ls.length ≤ 1099511627776)
    (hne : (60 = fid) = False) (hp : PureCaps caps)
    (hk : C1OK Try.prog fid (kLineFn caps f t g)) :
    CallsR Try.prog 61 [.sl 1 (ls.map .str), .int .i64 f, .int .i64 t, .fn fid caps] [] (aCh (f, cutL ls f.toNat (t + 1).toNat, eachL f t g)) [] := by
  obtain ⟨p1, p0, p2, p3, p4⟩ := hp
  refine callsR_of (mrg := true) (dyn := []) (CtrOK.cons hk (CtrOK.cons ok_changed (CtrOK.nil _))) mixed Try.func61 rfl (by simp [Try.ntmps61]) (by kernel_rfl) ?_
  rw [show Try.f61.results.toList = [.cell 8 35] from by kernel_rfl]
  simp (maxSteps := 4000000) only [↓wpA_H, ↓wpH_seq, ↓wpH_block, ↓wpH_loop, ↓wpH_region, bselH_false, runH_nil, runH_cons, gw, gselH_plain, ↓chk, justK, noW, ↓oneK, ↓pureK, ↓heapK, envOf, ↓thenA_normal, ↓stepEv, opnd, Pg.look, Bool.false_eq_true, implies_true, true_and, valV, heapV, footV, ofV, ofLeaf, AV.cells, AV.definite, reduceCtorEq, Nat.reduceEqDiff, Nat.reduceAdd, List.nil_append, List.length_cons, List.length_nil, Nat.zero_add, ite_true, ite_false, and_self, List.contains_nil, cutL, tz35, kChanged]
  refine loopH_intro (α := Nat) (fun k => ([(0, .sl 1 (ls.map .str)), (1, .int .i64 f), (2, .int .i64 t), (3, .fn fid caps), (8, .ptr 0 3 1 0 0), (9, .own 1 1 k), (10, .int .i64 (f + k))], [.arr 35 3 [.agg [.int .i64 0, .nls, .nls]], .arr 9 1 (((List.range k).map fun j : Nat => g (f + j)).map .str)])) (fun k => f + k ≤ t + 1) (fun k => (t + 1 - f).toNat - k) 0 (by omega) ?_ ?_
  · simp (maxSteps := 4000000) only [Pg.look, true_and, and_true, subA, subQ, ptrsE, pairsO, frzO, subF, subG, pickOf, assocN, pairsE, pairsC, pairsL, pairs0, frzE, frzC, frzL, frz0, frzH, Pg.freeze, List.foldl_nil, subOs, subO, subEv, subV_succ, subM, List.getElem?_cons_succ, List.getElem?_cons_zero, reduceCtorEq, Nat.reduceEqDiff, List.nil_append, List.append_nil, List.cons_append, List.map_nil, Nat.zero_add, ite_true, ite_false, and_self, List.range_zero, Int.cast_ofNat_Int, Nat.lt_irrefl, Nat.not_lt_zero, ↓p2, ↓p3, ↓p4]
    exact ⟨rfl, subX_eq rfl rfl, by omega⟩
  intro k hk2
  have hrl : (List.range k).length = k := List.length_range
  by_cases hlt : f + k ≤ t
  · have hct : decide (f + (k : Int) ≤ t) = true := decide_eq_true hlt
    simp (maxSteps := 4000000) only [↓wpA_H, ↓wpH_skip, ↓wpH_seq, ↓wpH_cond, ↓wpH_block, ↓wpH_region, ↓iselH_true, bselH_false, runH_nil, runH_cons, gw, gselH_plain, cselH_bool, ↓chk, justK, noW, ↓oneK, ↓pureK, ↓heapK, ↓thenA_normal, ↓blockA_normal, ↓stepEv, opnd, Pg.look, binK, intOp, Bool.false_eq_true, false_implies, implies_true, true_and, and_true, valV, heapV, footV, binV, intV, ofV, ofLeaf, subA, subQ, ptrsE, pairsO, frzO, subF, subG, pickOf, assocN, pairsE, pairsC, pairsL, pairs0, frzE, frzC, frzL, frz0, frzH, Pg.freeze, List.foldl_nil, subOs, subO, subEv, subV_succ, subM, srcV, srcE, appK, objAt, ↓callT, callC, callV, callH, normArgs, normA, normC, resL, res8_eq, res_succ, resM, shiftR, shift1, AV.cells, AV.definite, AV.leaf, AV.leafy, List.getElem?_cons_succ, List.getElem?_cons_zero, reduceCtorEq, Nat.reduceEqDiff, Nat.reduceAdd, List.nil_append, List.append_nil, List.cons_append, List.length_cons, List.length_nil, List.map_cons, List.map_nil, List.set_cons_zero, List.set_cons_succ, Nat.zero_add, ite_true, ite_false, Option.isSome_some, Prod.mk.injEq, List.all_cons, List.all_nil, Bool.and_self, and_self, List.length_map, rg1, lCons_dec, app1_str, List.contains_nil, beq_self_eq_true, List.range'_zero, Nat.reducePow, C1by_ns, C1by_pre, C1by_r, C1by_H, cutL, Nat.reduceLeDiff, Nat.lt_irrefl, Nat.mul_one, Nat.not_lt_zero, eb9, tk22, kChanged, ↓p0, ↓p2, ↓p3, ↓p4, hct, kLineFn, eq_self, hrl]
    exact ⟨⟨by omega, hlt⟩, ⟨by decide, by omega⟩, k + 1, by omega, by omega, rfl, ⟨subX_eq rfl rfl, subX_eq (by rw [List.range_succ]; simp) (pureB_strs _)⟩, rfl, by rw [wrap64 (by omega) (by omega)]; omega⟩
  · have hcf : decide (f + (k : Int) ≤ t) = false := decide_eq_false hlt
    have w1 : IntKind.i64.wrap (IntKind.i64.wrap (t - f) + 1) = t - f + 1 := by rw [wrap64 (n := t - f) (by omega) (by omega), wrap64 (by omega) (by omega)]
    have hn : (t + 1 - f).toNat = k := by omega
    simp (maxSteps := 4000000) only [↓wpA_H, ↓wpH_ret, ↓wpH_exit, ↓wpH_seq, ↓wpH_cond, ↓wpH_region, ↓iselH_false, bselH_false, runH_nil, runH_cons, gw, gselH_plain, cselH_bool, ↓chk, justK, ↓oneK, ↓pureK, ↓heapK, ↓thenA_normal, ↓thenA_exit, ↓blockA_exit, ↓stepEv, opnd, Pg.look, binK, intOp, Bool.false_eq_true, false_implies, implies_true, true_and, and_true, valV, heapV, footV, binV, intV, ofV, ofLeaf, retA, resK, tupA, subA, subQ, ptrsE, frzO, subF, subG, pickOf, frzE, frzC, frzL, frz0, frzH, Pg.freeze, List.foldl_nil, List.foldl_cons, subOs, subEv, subV_succ, subM, subL, ldCells, objAt, ↓callT, callC, callV, callH, normArgs, normA, normC, resL, res8_eq, res_succ, resM, shiftR, shift1, AV.cells, TK.cells, AV.leaf, AV.leafy, putCells, lay, frzAt, List.getElem?_cons_succ, List.getElem?_cons_zero, reduceCtorEq, Nat.reduceEqDiff, Nat.reduceAdd, List.nil_append, List.append_nil, List.cons_append, List.length_cons, List.length_nil, List.map_cons, List.map_nil, List.set_cons_zero, List.set_cons_succ, Nat.zero_add, ite_true, ite_false, Option.some.injEq, Prod.mk.injEq, List.all_cons, List.all_nil, Bool.and_self, and_self, exists_eq_left', pickOK_nil, List.length_map, cInt_dec, cSl_dec, lOne_dec, lCons_dec, dec2_some, pureB_strs, List.contains_nil, List.range'_zero, decL_str, C1by_ns, C1by_pre, C1by_r, C1by_H, optP_some, optV_some, optH_some, List.getD_cons_zero, cutL, List.drop_zero, List.drop_succ_cons, List.take_succ_cons, List.take_zero, Nat.sub_zero, Nat.le_refl, List.drop_nil, List.take_nil, Nat.zero_lt_succ, tk35, dz35, aCh, kChanged, hcf, hne, hrl, w1]
    exact ⟨⟨h0, by omega, by omega, by omega⟩, by rw [show f + (t - f + 1) = t + 1 by omega], by rw [eachL, hn]⟩
end Go.Pg
namespace Go.Pg
open Go Go.Proofs Go.RowKit

def blank (b : UInt8) : Bool := b == 32 || b == 9
def trimL (s : List UInt8) : List UInt8 := s.dropWhile blank

theorem trimLeftS_blank (s : List UInt8) : Lib.trimLeftS s [32, 9] = trimL s := by
  unfold Lib.trimLeftS trimL
  congr 1
  funext b
  rw [Bool.eq_iff_iff]
  simp [blank]

def kTrimLeft : C1 := C1.by [.id, .id] (lCons cStr (lOne cStr)) (fun d => d.2 = [32, 9]) (fun d => .str (trimL d.1)) (fun _ => [])
def spaced (a b : List UInt8) : Bool := !(a == []) && !(b == []) && ((b.getD 0 0).toNat : Int) != 41 && cls (a.getD (a.length - 1) 0).toNat true != 0

def joinStep (x : List UInt8 × Int) (s : List UInt8) : List UInt8 × Int :=
  let t := trimL s
  ((if spaced x.1 t = true then x.1 ++ [32] else x.1) ++ t, if spaced x.1 t = true then (x.1.length : Int) else if (t == []) = true then max ((x.1.length : Int) - 1) 0 else x.1.length)

def join (ls : Ls) (l n : Int) : Ch × Int × Bool :=
  if (decide (n < 2) || decide (l < 0) || decide (l ≥ ls.length) || decide (n > ls.length - l)) = true then ((0, [], []), 0, false)
  else
    let r := (cutL ls (l + 1).toNat (l + n).toNat).foldl joinStep (ls.getD l.toNat [], 0)
    ((l, cutL ls l.toNat (l + n).toNat, [r.1]), r.2, true)

def kSpaced : C1 := C1.by [.id, .id] (lCons cStr (lOne cStr)) (fun d => d.1.length ≤ 140737488355328) (fun d => .bool (spaced d.1 d.2)) (fun _ => [])
theorem trimL_len (s : List UInt8) : (trimL s).length ≤ s.length := (List.dropWhile_sublist _).length_le

theorem joinStep_len (x : List UInt8 × Int) (s : List UInt8) : (joinStep x s).1.length ≤ x.1.length + s.length + 1 := by
  have := trimL_len s
  simp only [joinStep]
  split <;> simp <;> omega

/-- The first so many of some lines, joined to one. -/
def joinK (s : List UInt8) (l : Ls) (k : Nat) : List UInt8 × Int := (l.take k).foldl joinStep (s, 0)
theorem joinK_succ (s : List UInt8) (l : Ls) (k : Nat) (h : k < l.length) : joinK s l (k + 1) = joinStep (joinK s l k) (l.getD k []) := by
  unfold joinK
  rw [take_succ_getD l k [] h, List.foldl_append]; rfl
theorem joinK_len (s : List UInt8) (l : Ls) (B : Nat) (h : ∀ i, (l.getD i []).length ≤ B) (k : Nat) : k ≤ l.length → (joinK s l k).1.length ≤ s.length + k * (B + 1) := by
  induction k with
  | zero => intro _; simp [joinK]
  | succ k ih =>
    intro hk
    rw [joinK_succ s l k (by omega), Nat.add_mul]
    have h1 := joinStep_len (joinK s l k) (l.getD k [])
    have h2 := h k
    have h3 := ih (by omega)
    omega

def kJoin : C1 := C1.by [.sl 1 [], .id, .id] (lCons cStrs (lCons (cInt .i64) (lOne (cInt .i64)))) (fun d => few d.1 ∧ -9223372036854775808 ≤ d.2.1 ∧ d.2.1 ≤ 9223372036854775807)
  (fun d => .tuple [aCh (join d.1 d.2.1 d.2.2).1, .int .i64 (join d.1 d.2.1 d.2.2).2.1, .bool (join d.1 d.2.1 d.2.2).2.2]) (fun _ => [])
end Go.Pg
namespace Go.Pg
open Go Go.Proofs

theorem over_set (s : List UInt8) (p i : Nat) (c : UInt8) (h : p + i < s.length) : (s.take p ++ List.replicate i c ++ s.drop (p + i)).set (p + i) c = s.take p ++ List.replicate (i + 1) c ++ s.drop (p + i + 1) := by
  have hlen : (s.take p ++ List.replicate i c).length = p + i := by simp; omega
  rw [List.set_append_right _ _ (by omega), hlen, Nat.sub_self, List.drop_eq_getElem_cons h, List.set_cons_zero, List.replicate_succ']
  simp
theorem fill_set (n i : Nat) (c : UInt8) (h : i < n) : (List.replicate i c ++ List.replicate (n - i) 0).set i c = List.replicate (i + 1) c ++ List.replicate (n - (i + 1)) 0 := by
  have hlen : (List.replicate i c).length = i := by simp
  rw [List.set_append_right _ _ (by omega), hlen, Nat.sub_self, show n - i = (n - (i + 1)) + 1 by omega, List.replicate_succ (n := n - (i + 1)), List.set_cons_zero, List.replicate_succ' (n := i)]
  simp
theorem ofBytes_rep (n : Nat) : List.replicate n (AV.int .u8 0) = ofBytes (List.replicate n 0) := by simp [ofBytes]

def over (ls : Ls) (p : Int × Int) (c : UInt8) (n : Int) : Ch × Bool :=
  if (!place ls p.1 p.2 || decide (n < 1) || decide (n > (ls.getD p.1.toNat []).length - p.2)) = true then ((0, [], []), false)
  else ((p.1, cutL ls p.1.toNat (p.1 + 1).toNat, [(ls.getD p.1.toNat []).take p.2.toNat ++ List.replicate n.toNat c ++ (ls.getD p.1.toNat []).drop (p.2 + n).toNat]), true)

theorem calls_over (ls new : Ls) (a b : Int) (h0 : 0 ≤ a) (h1 : a ≤ b + 1) (h2 : b < ls.length) (hs : ls.length ≤ 1099511627776) :
    CallsR Try.prog 38 [.sl 1 (ls.map .str), .int .i64 a, .int .i64 b, .sl 1 (new.map .str)] [] (.tuple [aCh (a, cutL ls a.toNat (b + 1).toNat, new), .bool true]) [] := by
  refine callsR_of (mrg := true) (dyn := []) (CtrOK.nil _) mixed Try.func38 rfl (by simp [Try.ntmps38]) (by kernel_rfl) ?_
  rw [show Try.f38.results.toList = [.cell 8 35, .tmp 9] from by kernel_rfl]
  simp (maxSteps := 4000000) only [↓wpA_H, ↓wpH_ret, ↓wpH_seq, ↓wpH_region, bselH_false, runH_nil, runH_cons, gw, gselH_plain, ↓chk, justK, noW, ↓oneK, ↓pureK, ↓heapK, envOf, ↓thenA_normal, ↓stepEv, opnd, Pg.look, binK, intOp, Bool.false_eq_true, implies_true, true_and, and_true, valV, heapV, footV, binV, intV, cutV, ofV, ofLeaf, retA, resK, tupA, subA, subQ, ptrsE, frzO, subF, subG, pickOf, frzE, frzC, frzL, frz0, frzH, Pg.freeze, List.foldl_nil, List.foldl_cons, subOs, subEv, subV_succ, subM, subL, srcV, srcE, appK, ldCells, objAt, sliceL, res_succ, resM, AV.cells, TK.cells, AV.definite, AV.leaf, AV.leafy, putCells, lay, buildL, frzAt, List.getElem?_cons_succ, List.getElem?_cons_zero, Option.map_some, Option.map_none, Option.getD_some, reduceCtorEq, Nat.reduceEqDiff, Nat.reduceAdd, List.nil_append, List.append_nil, List.cons_append, List.length_cons, List.length_nil, List.map_cons, List.map_nil, List.set_cons_zero, List.set_cons_succ, Nat.zero_add, ite_true, ite_false, Option.some.injEq, Option.isSome_some, AV.sl.injEq, AV.agg.injEq, List.all_cons, List.all_nil, Bool.and_self, and_self, exists_eq_left', pickOK_nil, List.length_map, pureB_strs, resIn, List.contains_cons, List.contains_nil, Bool.or_false, beq_self_eq_true, ← List.map_drop, ← List.map_take, List.getD_cons_zero, cutL, List.drop_zero, List.drop_succ_cons, List.take_succ_cons, List.take_zero, Nat.sub_zero, Nat.reduceLeDiff, Nat.le_refl, List.drop_nil, List.take_nil, Nat.zero_lt_succ, eb9, tk22, tk35, tz35, dz35, aCh]
  rw [wrap64 (n := b + 1) (by omega) (by omega)]
  exact ⟨by omega, by rw [List.length_take, List.length_drop]; omega, rfl⟩
theorem calls_cnone : CallsR Try.prog 37 [] [] (.tuple [aCh (0, [], []), .bool false]) [] := by
  refine callsR_of (mrg := true) (dyn := []) (CtrOK.nil _) mixed Try.func37 rfl (by simp [Try.ntmps37]) (by kernel_rfl) ?_
  rw [show Try.f37.results.toList = [.cell 0 35, .tmp 1] from by kernel_rfl]
  simp (maxSteps := 4000000) only [↓wpA_H, ↓wpH_ret, ↓wpH_seq, ↓wpH_region, bselH_false, runH_nil, runH_cons, gw, gselH_plain, ↓chk, justK, noW, ↓oneK, ↓pureK, ↓heapK, envOf, ↓thenA_normal, ↓stepEv, opnd, Pg.look, Bool.false_eq_true, implies_true, true_and, and_true, valV, heapV, footV, ofV, ofLeaf, retA, resK, tupA, subA, subQ, ptrsE, frzO, subF, subG, pickOf, frzE, frzC, frzL, frz0, frzH, Pg.freeze, List.foldl_nil, subOs, subEv, subV_succ, subM, subL, ldCells, objAt, res_succ, resM, AV.cells, TK.cells, AV.definite, AV.leaf, AV.leafy, putCells, lay, buildL, List.getElem?_cons_zero, Option.getD_some, reduceCtorEq, Nat.reduceEqDiff, Nat.reduceAdd, List.nil_append, List.append_nil, List.length_cons, List.length_nil, List.map_nil, List.set_cons_zero, Nat.zero_add, ite_true, ite_false, Option.some.injEq, Option.isSome_some, AV.agg.injEq, List.all_cons, List.all_nil, Bool.and_self, and_self, exists_eq_left', pickOK_nil, List.contains_nil, List.getD_cons_zero, cutL, List.drop_zero, List.drop_succ_cons, List.take_succ_cons, List.take_zero, Nat.sub_zero, Nat.le_refl, List.drop_nil, List.take_nil, Nat.zero_lt_succ, tk35, tz35, dz35, aCh]

def kOver : C1 := C1.by [.sl 1 [], .id, .id, .id] (lCons cStrs (lCons cPos (lCons cByte (lOne (cInt .i64))))) (fun d => small d.1) (fun d => .tuple [aCh (over d.1 d.2.1 d.2.2.1 d.2.2.2).1, .bool (over d.1 d.2.1 d.2.2.1 d.2.2.2).2]) (fun _ => [])
def kSameB : C1 := C1.by [.id, .id] (lCons cByte (lOne (cInt .i64))) (fun d => 0 ≤ d.2 ∧ d.2 ≤ 1099511627776) (fun d => .str (List.replicate d.2.toNat d.1)) (fun _ => [])
def kROv : C1 := C1.by [.sl 1 [], .id, .id, .sl 1 []] (lCons cStrs (lCons (cInt .i64) (lCons (cInt .i64) (lOne cStrs)))) (fun d => 0 ≤ d.2.1 ∧ d.2.1 ≤ d.2.2.1 + 1 ∧ d.2.2.1 < d.1.length ∧ d.1.length ≤ 1099511627776)
  (fun d => .tuple [aCh (d.2.1, cutL d.1 d.2.1.toNat (d.2.2.1 + 1).toNat, d.2.2.2), .bool true]) (fun _ => [])
theorem ok_over : C1OK Try.prog 38 kROv := C1OK.by (by kernel_rfl) (fun d h => calls_over d.1 d.2.2.2 d.2.1 d.2.2.1 h.1 h.2.1 h.2.2.1 h.2.2.2) (fun _ => rfl) (fun _ => rfl)
def kCNone : C1 := C1.by [] lNil (fun _ => True) (fun _ => .tuple [aCh (0, [], []), .bool false]) (fun _ => [])
theorem ok_cnone : C1OK Try.prog 37 kCNone := C1OK.by (by kernel_rfl) (fun _ _ => calls_cnone) (fun _ => rfl) (fun _ => rfl)

def kROver : C1 := kOver
end Go.Pg
namespace Go.Pg
open Go Go.Proofs

theorem trimL_step (s : List UInt8) : (s = [] → trimL s = []) ∧ (s ≠ [] → (cls (s.getD 0 0).toNat true == 0) = true → trimL s = trimL (s.drop 1)) ∧ (s ≠ [] → (cls (s.getD 0 0).toNat true == 0) = false → trimL s = s) := by
  cases s with
  | nil => simp [trimL]
  | cons b s =>
    have hb : (cls (b.toNat : Int) true == 0) = blank b := by
      unfold cls blank
      have h1 : ((b.toNat : Int) == 32) = (b == 32) := by
        rw [Bool.eq_iff_iff, beq_iff_eq, beq_iff_eq]
        exact ⟨fun h => UInt8.toNat_inj.1 (by show _ = 32; omega), fun h => by subst h; rfl⟩
      have h2 : ((b.toNat : Int) == 9) = (b == 9) := by
        rw [Bool.eq_iff_iff, beq_iff_eq, beq_iff_eq]
        exact ⟨fun h => UInt8.toNat_inj.1 (by show _ = 9; omega), fun h => by subst h; rfl⟩
      rw [h1, h2]
      cases (b == 32 || b == 9) <;> simp
    refine ⟨by simp, fun _ h => ?_, fun _ h => ?_⟩
    · simp only [List.getD_cons_zero] at h
      rw [hb] at h
      simp [trimL, h]
    · simp only [List.getD_cons_zero] at h
      rw [hb] at h
      simp [trimL, h]

theorem spaced_nil (a : List UInt8) : spaced a [] = false := by simp [spaced]
theorem spaced_eq (a t : List UInt8) (ht : (t == []) = false) : (decide ((a == []) = false) && cls ((a.getD ((a.length : Int) - 1).toNat 0).toNat : Int) true != 0 && ((t.getD 0 0).toNat : Int) != 41) = spaced a t := by
  cases a with
  | nil => simp [spaced]
  | cons x a =>
    have h1 : (((x :: a).length : Int) - 1).toNat = (x :: a).length - 1 := by simp only [List.length_cons]; omega
    rw [h1]
    simp only [spaced, ht, Bool.not_false, Bool.and_true]
    have h2 : decide (((x :: a) == []) = false) = true := by simp
    have h3 : (!((x :: a) == [])) = true := by simp
    rw [h2, h3, Bool.true_and, Bool.true_and, Bool.and_comm]

end Go.Pg
namespace Go.Pg
open Go Go.Proofs

/-- What is left of a line. -/
def cutLine (ls : Ls) (r : Rg) (i : Int) : List UInt8 := (ls.getD i.toNat []).take (cols (ls.getD i.toNat []).length r i).1.toNat ++ (ls.getD i.toNat []).drop (cols (ls.getD i.toNat []).length r i).2.toNat

theorem valid_to {ls : Ls} {r : Rg} (h : valid ls r = true) : (r.1 == 2) = true → 0 ≤ r.2.2.2.2 := by
  intro h2
  obtain ⟨k, f1, f2, t1, t2⟩ := r
  simp only [beq_iff_eq] at h2
  subst h2
  simp [valid] at h
  show 0 ≤ t2
  omega

set_option maxHeartbeats 4000000 in
theorem calls_Cut1 (ls : Ls) (r : Rg) (i : Int) (h1 : r.2.1 ≤ i) (h2 : i ≤ r.2.2.2.1) (hs : small ls) (hv : valid ls r = true) :
    CallsR Try.prog 62 [.int .i64 i, .rp [.sl 1 (ls.map .str)], .rp [.int .i64 r.1, .int .i64 r.2.1, .int .i64 r.2.2.1, .int .i64 r.2.2.2.1, .int .i64 r.2.2.2.2]] [] (.str (cutLine ls r i)) [] := by
  obtain ⟨a1, a2, a3, a4, a5⟩ := cols_ok hv i h1 h2
  have hl := hs.2 i.toNat
  have ht := valid_to hv
  obtain ⟨k, f1, f2, t1, t2⟩ := r
  refine callsR_of (mrg := true) (dyn := []) (CtrOK.cons ok_Columns (CtrOK.nil _)) mixed Try.func62 rfl (by simp [Try.ntmps62]) (by kernel_rfl) ?_
  rw [show Try.f62.results.toList = [.tmp 4] from by kernel_rfl]
  simp (maxSteps := 4000000) only [↓wpA_H, ↓wpH_ret, ↓wpH_seq, ↓wpH_region, bselH_false, runH_nil, runH_cons, gw, gselH_plain, ↓chk, justK, noW, ↓oneK, ↓pureK, ↓heapK, envOf, ↓thenA_normal, ↓stepEv, opnd, Pg.look, binK, strOp, Bool.false_eq_true, implies_true, true_and, and_true, valV, heapV, footV, binV, strV, cutV, ofV, ofLeaf, retA, resK, tupA, subA, subQ, ptrsE, frzO, subF, subG, pickOf, frzE, frzC, frz0, frzH, Pg.freeze, List.foldl_nil, subOs, subEv, subV_succ, subM, ldCells, sliceS, ↓callT, callC, callV, callH, normArgs, normA, normC, resL, res8_eq, res_succ, resM, shiftR, shift1, AV.cells, TK.cells, List.getElem?_cons_succ, List.getElem?_cons_zero, Option.map_some, Option.map_none, Option.getD_some, reduceCtorEq, Nat.reduceEqDiff, Nat.reduceAdd, List.append_nil, List.length_cons, List.length_nil, List.map_cons, List.map_nil, Nat.zero_add, ite_true, ite_false, Option.some.injEq, and_self, exists_eq_left', pickOK_nil, List.length_map, cInt_dec, cSl_dec, cAgg_dec, lOne_dec, lCons_dec, dec2_some, List.contains_nil, List.range'_zero, decL_str, C1by_ns, C1by_pre, C1by_r, C1by_H, optP_some, optV_some, optH_some, getD_str, cutL, List.drop_zero, List.take_succ_cons, Nat.sub_zero, Nat.le_refl, List.take_nil, tk9, dz9, tk22, tk29, kColumns]
  exact ⟨⟨⟨a1, a2⟩, fun i => by have := hs.2 i; omega, ht⟩, ⟨a1, by omega⟩, ⟨a3, by omega⟩, ⟨a1, by omega⟩, ⟨by omega, a5⟩, by rw [List.length_take, List.length_drop]; omega, rfl⟩

/-- Each of some lines, by what is left of them. -/
def kEachCut : C1 := C1.by [.sl 1 [], .id, .id, .id] (lCons cStrs (lCons (cInt .i64) (lCons (cInt .i64) (lOne (cFn 62 (lCons (cRp (lOne cStrs)) (lOne (cRp lRg))))))))
  (fun d => small d.1 ∧ d.2.2.2.1 = d.1 ∧ valid d.1 d.2.2.2.2 = true ∧ d.2.1 = d.2.2.2.2.2.1 ∧ d.2.2.1 = d.2.2.2.2.2.2.2.1)
  (fun d => aCh (d.2.1, cutL d.1 d.2.1.toNat (d.2.2.1 + 1).toNat, eachL d.2.1 d.2.2.1 (cutLine d.1 d.2.2.2.2))) (fun _ => [])

theorem valid_line {ls : Ls} {r : Rg} (h : valid ls r = true) : 0 ≤ r.2.1 ∧ r.2.1 ≤ r.2.2.2.1 ∧ r.2.2.2.1 < ls.length := by
  simp only [valid, Bool.and_eq_true, Bool.not_eq_true', Bool.or_eq_false_iff, decide_eq_false_iff_not] at h
  omega

theorem ok_EachCut : C1OK Try.prog 61 kEachCut := C1OK.by (by kernel_rfl) (fun d h => by
  obtain ⟨ls, f, t, ls2, r⟩ := d
  obtain ⟨h1, h2, h3, h4, h5⟩ := h
  simp only at h1 h2 h3 h4 h5
  subst h2
  subst h4
  subst h5
  obtain ⟨v1, v2, v3⟩ := valid_line h3
  exact calls_each ls2 r.2.1 r.2.2.2.1 _ _ (cutLine ls2 r) v1 (by omega) v3 h1.1 (by simp) (.cons (.cons .nil))
    (kLineFn_ok (by kernel_rfl) (fun i a b => calls_Cut1 ls2 r i a b h1 h3))) (fun _ => rfl) (fun _ => rfl)

def cut (ls : Ls) (r : Rg) : Ch × Bool :=
  if valid ls r = true then
    ((r.2.1, cutL ls r.2.1.toNat (r.2.2.2.1 + 1).toNat, if (r.1 == 0) = true then [(ls.getD r.2.1.toNat []).take r.2.2.1.toNat ++ (ls.getD r.2.2.2.1.toNat []).drop r.2.2.2.2.toNat]
      else if (r.1 == 2) = true then eachL r.2.1 r.2.2.2.1 (cutLine ls r)
      else if (r.2.2.2.1 - r.2.1 + 1 == (ls.length : Int)) = true then [[]] else []), true)
  else ((0, [], []), false)

set_option maxRecDepth 20000 in
set_option maxHeartbeats 4000000 in
theorem calls_Cut (ls : Ls) (r : Rg) (hs : small ls) :
    CallsR Try.prog 44 [.sl 1 (ls.map .str), aRg r] [] (.tuple [aCh (cut ls r).1, .bool (cut ls r).2]) [] := by
  refine callsR_of (mrg := true) (dyn := []) (CtrOK.cons ok_Valid (CtrOK.cons ok_changed (CtrOK.cons ok_EachCut (CtrOK.nil _)))) mixed Try.func44 rfl (by simp [Try.ntmps44]) (by kernel_rfl) ?_
  rw [show Try.f44.results.toList = [.cell 4 35, .tmp 5] from by kernel_rfl]
  cases hv : valid ls r with
  | false =>
    simp (maxSteps := 4000000) only [↓wpA_H, ↓wpH_ret, ↓wpH_seq, ↓wpH_cond, ↓wpH_region, ↓iselH_true, bselH_false, runH_nil, runH_cons, gw, gselH_plain, cselH_bool, ↓chk, justK, noW, ↓oneK, ↓pureK, ↓heapK, envOf, ↓thenA_normal, ↓thenA_ret, ↓stepEv, opnd, Pg.look, Bool.not_false, Bool.false_eq_true, false_implies, implies_true, true_and, and_true, valV, heapV, footV, ofV, ofLeaf, retA, resK, tupA, subA, subQ, ptrsE, frzO, subF, subG, pickOf, frzE, frzC, frzL, frz0, frzH, Pg.freeze, List.foldl_nil, subOs, subEv, subV_succ, subM, subL, ldCells, objAt, ↓callT, callC, callV, callH, normArgs, normA, normC, resL, res8_eq, res_succ, resM, shiftR, shift1, AV.cells, TK.cells, AV.definite, AV.leaf, AV.leafy, putCells, lay, buildL, List.getElem?_cons_succ, List.getElem?_cons_zero, Option.getD_some, reduceCtorEq, Nat.reduceEqDiff, Nat.reduceAdd, List.nil_append, List.append_nil, List.cons_append, List.length_cons, List.length_nil, List.map_cons, List.map_nil, List.set_cons_zero, List.set_cons_succ, Nat.zero_add, ite_true, ite_false, Option.some.injEq, Option.isSome_some, AV.agg.injEq, Prod.mk.injEq, List.all_cons, List.all_nil, Bool.and_self, and_self, exists_eq_left', pickOK_nil, cInt_dec, cSl_dec, cAgg_dec, lOne_dec, lCons_dec, dec2_some, List.contains_nil, List.range'_zero, decL_str, C1by_ns, C1by_pre, C1by_r, C1by_H, optP_some, optV_some, optH_some, List.getD_cons_zero, cutL, List.drop_zero, List.drop_succ_cons, List.take_succ_cons, List.take_zero, Nat.sub_zero, Nat.le_refl, List.drop_nil, List.take_nil, Nat.zero_lt_succ, tk22, dz22, tk29, dz29, tk35, tz35, dz35, kValid, kChanged, kEachCut, aCh, aRg, hv, cut]
  | true =>
    obtain ⟨v1, v2, v3⟩ := valid_line hv
    have hl := hs.1
    obtain ⟨k, f1, f2, t1, t2⟩ := r
    simp only at v1 v2 v3
    have w1 : IntKind.i64.wrap (IntKind.i64.wrap (t1 - f1) + 1) = t1 - f1 + 1 := by rw [wrap64 (n := t1 - f1) (by omega) (by omega), wrap64 (by omega) (by omega)]
    have w2 : f1 + (t1 - f1 + 1) = t1 + 1 := by omega
    simp (maxSteps := 4000000) only [↓wpA_H, ↓wpH_skip, ↓wpH_ret, ↓wpH_seq, ↓wpH_cond, ↓wpH_block, ↓wpH_region, ↓iselH_false, iselH_if, bselH_false, runH_nil, runH_cons, gw, gselH_plain, cselH_bool, ↓chk, justK, noW, ↓oneK, ↓pureK, ↓heapK, envOf, ↓thenA_normal, ↓thenA_ret, ↓blockA_normal, ↓blockA_ret, ↓stepEv, opnd, Pg.look, binK, intOp, strOp, Bool.not_true, Bool.false_eq_true, false_implies, implies_true, true_and, and_true, valV, heapV, footV, binV, intV, strV, cutV, ofV, ofLeaf, retA, resK, tupA, subA, subQ, ptrsE, frzO, subF, subG, pickOf, frzE, frzC, frzL, frz0, frzH, Pg.freeze, List.foldl_nil, List.foldl_cons, subOs, subEv, subV_succ, subM, subL, slen, ldCells, objAt, sliceS, ↓callT, callC, callV, callH, normArgs, normA, normC, resL, res8_eq, res_succ, resM, shiftR, shift1, AV.cells, TK.cells, AV.definite, AV.leaf, AV.leafy, AV.pureLeaf, AV.pureB, putCells, lay, frzAt, List.getElem?_cons_succ, List.getElem?_cons_zero, Option.map_some, Option.map_none, Option.getD_some, reduceCtorEq, Nat.reduceEqDiff, Nat.reduceAdd, List.nil_append, List.append_nil, List.cons_append, List.length_cons, List.length_nil, List.map_cons, List.map_nil, List.set_cons_zero, List.set_cons_succ, Nat.zero_add, ite_true, ite_false, Option.some.injEq, Option.isSome_some, AV.int.injEq, Prod.mk.injEq, List.all_cons, List.all_nil, Bool.and_self, and_self, exists_eq_left', pickOK_nil, List.length_map, cInt_dec, rg1, cStr_dec, cSl_dec, cAgg_dec, cRp_dec, cFn_dec, lOne_dec, lCons_dec, dec2_some, List.contains_nil, beq_self_eq_true, decL_nil, decL_cons, consO_some, List.range'_zero, Nat.reducePow, decL_str, C1by_ns, C1by_pre, C1by_r, C1by_H, optP_some, optV_some, optH_some, getD_str, List.getD_cons_zero, cutL, List.drop_zero, List.drop_succ_cons, List.take_succ_cons, List.take_zero, Nat.add_zero, Nat.sub_zero, Nat.reduceLeDiff, Nat.le_refl, Nat.mul_one, List.drop_nil, List.take_nil, Nat.zero_lt_succ, tk3, tk9, dz9, eb9, tk22, dz22, tk27, tk29, dz29, tk35, tz35, dz35, kValid, kChanged, kEachCut, aCh, aRg, hv, cut, w1, w2]
    refine ⟨fun h1 => ?_, fun h1 => ⟨fun h2 => ⟨hs, by rw [if_neg (by rw [h1]; decide), if_pos h2]⟩, fun h2 => ⟨fun h3 => ?_, fun h3 => ?_⟩⟩⟩
    · have hk : valid ls (k, f1, f2, t1, t2) = true := hv
      simp only [valid, h1, if_true, Bool.and_eq_true] at hk
      obtain ⟨_, ⟨b1, b2⟩, _⟩ := hk
      rw [place_iff] at b1 b2
      have c1 := hs.2 f1.toNat
      have c2 := hs.2 t1.toNat
      exact ⟨by omega, by omega, by omega, by omega, by rw [List.length_take, List.length_drop]; omega, by omega, by rw [if_pos h1]; rfl⟩
    · exact ⟨by omega, by rw [if_neg (by rw [h1]; decide), if_neg (by rw [h2]; decide), if_pos h3]; rfl⟩
    · exact ⟨by omega, by rw [if_neg (by rw [h1]; decide), if_neg (by rw [h2]; decide), if_neg (by rw [h3]; decide)]; rfl⟩
def kCut : C1 := C1.by [.sl 1 [], .id] (lCons cStrs (lOne cRg)) (fun d => small d.1) (fun d => .tuple [aCh (cut d.1 d.2).1, .bool (cut d.1 d.2).2]) (fun _ => [])
theorem ok_Cut : C1OK Try.prog 44 kCut := C1OK.by (by kernel_rfl) (fun d h => calls_Cut d.1 d.2 h) (fun _ => rfl) (fun _ => rfl)
end Go.Pg
