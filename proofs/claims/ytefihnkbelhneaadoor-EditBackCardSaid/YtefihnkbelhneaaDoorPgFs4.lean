/- A text is written at a place. -/
import Derived.Test.YtefihnkbelhneaaDoorPgFs3
import Derived.Test.YtefihnkbelhneaaDoorPgLst
namespace Go.Pg
open Go Go.Proofs

def kPlace : C1 := C1.by [.sl 1 [], .id] (lCons cStrs (lOne (cAgg (lCons (cInt .i64) (lOne (cInt .i64)))))) (fun _ => True) (fun d => .bool (place d.1 d.2.1 d.2.2)) (fun _ => [])
theorem ok_Place : C1OK Tryd.prog 31 kPlace := C1OK.by (by kernel_rfl) (fun d _ => calls_Place d.1 d.2.1 d.2.2) (fun _ => rfl) (fun _ => rfl)

def kChanged : C1 := C1.by [.sl 1 [], .id, .id, .sl 1 []] (lCons cStrs (lCons (cInt .i64) (lCons (cInt .i64) (lOne cStrs))))
  (fun d => 0 ≤ d.2.1 ∧ 0 ≤ d.2.2.1 ∧ d.2.1 + d.2.2.1 ≤ d.1.length ∧ d.1.length ≤ 4398046511104)
  (fun d => .agg [.int .i64 d.2.1, .sl 1 ((cutL d.1 d.2.1.toNat (d.2.1 + d.2.2.1).toNat).map .str), .sl 1 (d.2.2.2.map .str)]) (fun _ => [])
theorem ok_changed : C1OK Tryd.prog 33 kChanged :=
  C1OK.by (by kernel_rfl) (fun d h => calls_changed d.1 d.2.2.2 d.2.1 d.2.2.1 h.1 h.2.1 h.2.2.1 h.2.2.2) (fun _ => rfl) (fun _ => rfl)

abbrev Ls := List (List UInt8)
def aPos (p : Int × Int) : AV := .agg [.int .i64 p.1, .int .i64 p.2]
def aCh (x : Int × Ls × Ls) : AV := .agg [.int .i64 x.1, .sl 1 (x.2.1.map .str), .sl 1 (x.2.2.map .str)]

theorem getD_ch (l : List (Int × Ls × Ls)) (i : Nat) : (l.map aCh).getD i (.agg [.int .i64 0, .sl 1 [], .sl 1 []]) = aCh (l.getD i (0, [], [])) := getD_map aCh l i (0, [], [])
theorem getD_pos (l : List (Int × Int)) (i : Nat) : (l.map aPos).getD i (.agg [.int .i64 0, .int .i64 0]) = aPos (l.getD i (0, 0)) := getD_map aPos l i (0, 0)

/-- Few lines, none of them long. -/
def small (ls : Ls) : Prop := ls.length ≤ 1099511627776 ∧ ∀ i, (ls.getD i []).length ≤ 1099511627776

theorem place_iff (ls : Ls) (l c : Int) : place ls l c = true ↔ 0 ≤ l ∧ l.toNat < ls.length ∧ 0 ≤ c ∧ c ≤ (ls.getD l.toNat []).length := by
  simp only [place, Bool.and_eq_true, decide_eq_true_eq]
  omega

def write (ls : Ls) (l c : Int) (text : Ls) : (Int × Ls × Ls) × (Int × Int) × Bool :=
  if (place ls l c && decide (0 < text.length)) = true then
    let s := ls.getD l.toNat []
    let t0 := text.set 0 (s.take c.toNat ++ text.getD 0 [])
    let k := text.length - 1
    ((l, [s], t0.set k (t0.getD k [] ++ s.drop c.toNat)), (l + k, (t0.getD k []).length), true)
  else ((0, [], []), (0, 0), false)

set_option maxRecDepth 20000 in
set_option maxHeartbeats 4000000 in
theorem calls_Write (ls text : Ls) (l c : Int) (hb : small ls) (ht : small text) :
    CallsR Tryd.prog 13 [.sl 1 (ls.map .str), .agg [.int .i64 l, .int .i64 c], .sl 1 (text.map .str)] []
      (.tuple [aCh (write ls l c text).1, aPos (write ls l c text).2.1, .bool (write ls l c text).2.2]) [] := by
  refine callsR_of (mrg := true) (dyn := [9]) (CtrOK.cons ok_Place (CtrOK.cons ok_changed (CtrOK.cons ok_Clone (CtrOK.nil _)))) mixed Tryd.func13 rfl (by simp [Tryd.ntmps13]) (by kernel_rfl) ?_
  rw [show Tryd.f13.results.toList = [.cell 6 31, .cell 7 24, .tmp 8] from by kernel_rfl]
  simp (maxSteps := 4000000) only [↓wpA_H, ↓wpH_skip, ↓wpH_ret, ↓wpH_seq, ↓wpH_cond, ↓wpH_region, bselH_true, iselH_if, bselH_false, runH_nil, runH_cons, gw, gselH_plain, gselH_if, kselH_1, cselH_bool, gkind, ↓chk, justK, noW, ↓oneK, ↓pureK, ↓heapK, envOf, ↓thenA_normal, ↓thenA_ret, ↓stepEv, opnd, Pg.look, binK, intOp, strOp, dstOf, Bool.false_eq_true, false_implies, implies_true, imp_self, true_and, and_true, forall_const, pickC, pickV, unc, gof, mux, mergeK, condsL, valV, heapV, footV, binV, intV, strV, cutV, mergeable, look_stripE, ofV, ofLeaf, sameK, retA, resK, tupA, subA, subQ, ptrsE, frzO, subF, subG, pickOf, frzE, frzC, frzL, frz0, frzH, Pg.freeze, List.foldl_nil, List.foldl_cons, subOs, subEv, subV_succ, subM, subL, slen, ldCells, objAt, sliceS, ↓callT, callC, callV, callH, normArgs, normA, normC, resL, res8_eq, res_succ, resM, shiftR, shift1, AV.cells, TK.cells, AV.definite, AV.leaf, AV.leafy, putCells, lay, buildL, frzAt, Op.operands, Call.operands, Array.toList_append, List.getElem?_toArray, List.getElem?_cons_succ, List.getElem?_cons_zero, Option.bind_some, Option.map_some, Option.map_none, Option.getD_some, reduceCtorEq, Nat.reduceEqDiff, Nat.reduceAdd, List.nil_append, List.append_nil, List.cons_append, List.length_cons, List.length_nil, List.map_cons, List.map_nil, List.set_cons_zero, List.set_cons_succ, Nat.zero_add, Int.reduceToNat, ite_true, ite_false, Option.some.injEq, Option.isSome_some, AV.int.injEq, AV.agg.injEq, Prod.mk.injEq, Bool.if_true_left, List.all_cons, List.all_nil, Bool.and_self, and_self, Bool.not_eq_true', exists_eq_left', pickOK_nil, List.length_map, cInt_dec, List.toList_toArray, Int.reduceLE, cSl_dec, cAgg_dec, lOne_dec, lCons_dec, dec2_some, set_str, List.length_set, pureB_strs, List.contains_cons, List.contains_nil, Nat.reduceBEq, Bool.or_self, Bool.or_false, beq_self_eq_true, List.range'_zero, decL_str, C1by_ns, C1by_pre, C1by_r, C1by_H, optP_some, optV_some, optH_some, getD_str, List.getD_cons_zero, cutL, List.drop_zero, List.drop_succ_cons, List.take_succ_cons, List.take_zero, Nat.add_zero, Nat.sub_zero, Nat.reduceLeDiff, Nat.le_refl, List.drop_nil, List.take_nil, Nat.zero_lt_succ, tk3, tk9, dz9, tk22, tk24, tz24, dz24, tk31, tz31, dz31, kClone, kPlace, kChanged, aCh, aPos]
  refine ⟨fun h => ?_, fun h => ?_⟩
  · have h1 : ¬ (place ls l c && decide (0 < text.length)) = true := by
      simp at h ⊢
      intro hp
      rcases h with h | h
      · rw [h] at hp; cases hp
      · simp [h]
    simp only [write, if_neg h1]
    simp
  · have h1 : (place ls l c && decide (0 < text.length)) = true := by
      simp at h ⊢
      exact ⟨h.1, by have := h.2; cases text with
        | nil => exact absurd rfl this
        | cons => simp⟩
    simp only [Bool.and_eq_true, decide_eq_true_eq] at h1
    have hw : write ls l c text = _ := if_pos (by simpa using h1)
    rw [hw]
    obtain ⟨hp, ht0⟩ := h1
    rw [place_iff] at hp
    have hs := hb.2 l.toNat
    have ht1 := ht.2 0
    have hb1 := hb.1
    have htl := ht.1
    rw [wrap64 (n := (text.length : Int) - 1) (by omega) (by omega)]
    have hk : ((text.length : Int) - 1).toNat = text.length - 1 := by omega
    rw [hk]
    have hx : ((text.set 0 ((ls.getD l.toNat []).take c.toNat ++ text.getD 0 [])).getD (text.length - 1) []).length ≤ 2199023255552 := by
      rw [getD_setL]
      have := ht.2 (text.length - 1)
      split
      · simp only [List.length_append, List.length_take]; omega
      · omega
    have hy : (l + 1).toNat - l.toNat = 1 := by omega
    refine ⟨by omega, by omega, by omega, by omega, by omega, by simp only [List.length_take]; omega, by omega, by omega, by omega, by omega, by omega, by omega, by omega, by simp only [List.length_drop]; omega, by omega, by omega, by omega, rfl, ⟨rfl, ?_, rfl⟩, ⟨?_, rfl⟩, rfl⟩
    · rw [hy, take1_drop ls l.toNat [] (by omega)]
    · rw [wrap64 (by omega) (by omega)]
      show l + ((text.length : Int) - 1) = l + ((text.length - 1 : Nat) : Int)
      omega

end Go.Pg
