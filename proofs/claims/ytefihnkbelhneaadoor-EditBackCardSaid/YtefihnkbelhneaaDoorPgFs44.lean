/- Blanks ahead are taken away; lines are joined. -/
import Derived.Test.YtefihnkbelhneaaDoorPgFs42
import Derived.Test.YtefihnkbelhneaaDoorPgShf
import Derived.Test.YtefihnkbelhneaaDoorPgLib
import Derived.Shelf.Strings.SlTrimAscii
namespace Go.Pg
open Go Go.Proofs Go.RowKit

def blank (b : UInt8) : Bool := b == 32 || b == 9
def trimL (s : List UInt8) : List UInt8 := s.dropWhile blank

theorem trimLeftS_blank (s : List UInt8) : Lib.trimLeftS s [32, 9] = trimL s := by
  unfold Lib.trimLeftS trimL
  congr 1
  funext b
  rw [Bool.eq_iff_iff]
  simp [blank]

theorem calls_TrimLeft (s : List UInt8) : CallsR Tryd.prog 38 [.str s, .str [32, 9]] [] (.str (trimL s)) [] := by
  refine callsR_below fun E vals hv => ?_
  obtain ⟨u, v, rfl, h1, h2⟩ := hv.two
  cases h1 with
  | str S =>
    generalize hx : AV.str [32, 9] = x at h2
    cases h2 with
    | str S2 =>
      have e : S2 = ⟨#[32, 9]⟩ := by
        rw [← bytesEta S2]
        have := (AV.str.inj hx).symm
        rw [this]
      subst e
      refine (Any.strings_TrimLeft_laid Tryd.lays161 (by kernel_rfl) S ⟨#[32, 9]⟩ E.W (by decide) (ascii_of_all (by decide))).mono fun e W' ⟨h4, h5⟩ => ?_
      refine ⟨⟨_, h4, fun E' => ?_⟩, h5⟩
      rw [show (⟨#[32, 9]⟩ : ByteArray).data.toList = [32, 9] from rfl, trimLeftS_blank]
      have := VR.str (E := E') ⟨(trimL S.data.toList).toArray⟩
      simpa using this
    | _ => cases hx
def kTrimLeft : C1 := C1.by [.id, .id] (lCons cStr (lOne cStr)) (fun d => d.2 = [32, 9]) (fun d => .str (trimL d.1)) (fun _ => [])
theorem ok_TrimLeft : C1OK Tryd.prog 38 kTrimLeft := C1OK.by (by kernel_rfl) (fun d h => by
  obtain ⟨s, t⟩ := d
  simp only at h
  subst h
  exact calls_TrimLeft s) (fun _ => rfl) (fun _ => rfl)

def spaced (a b : List UInt8) : Bool := !(a == []) && !(b == []) && ((b.getD 0 0).toNat : Int) != 41 && cls (a.getD (a.length - 1) 0).toNat true != 0

theorem calls_spaced (a b : List UInt8) (ha : a.length ≤ 140737488355328) : CallsR Tryd.prog 39 [.str a, .str b] [] (.bool (spaced a b)) [] := by
  refine callsR_of (mrg := true) (dyn := []) (CtrOK.cons ok_Of (CtrOK.nil _)) mixed Tryd.func39 rfl (by simp [Tryd.ntmps39]) (by kernel_rfl) ?_
  rw [show Tryd.f39.results.toList = [.tmp 4] from by kernel_rfl]
  simp (maxSteps := 4000000) only [↓wpA_H, ↓wpH_ret, ↓wpH_seq, ↓wpH_region, bselH_false, runH_nil, runH_cons, gw, gselH_plain, gselH_if, kselH_1, gkind, ↓chk, justK, ↓oneK, ↓pureK, envOf, ↓thenA_normal, ↓stepEv, opnd, Pg.look, binK, intOp, strOp, dstOf, Bool.false_eq_true, implies_true, imp_self, true_and, and_true, pickC, pickV, unc, gof, mux, mergeK, condsL, valV, heapV, footV, binV, intV, strV, mergeable, look_stripE, ofV, ofLeaf, sameK, retA, resK, tupA, subA, subQ, ptrsE, frzO, subF, subG, pickOf, frzE, frzC, frz0, frzH, Pg.freeze, List.foldl_nil, subOs, subEv, subV_succ, subM, ↓callT, callC, callV, normArgs, normA, resL, res8_eq, res_succ, resM, shiftR, shift1, Op.operands, Call.operands, Array.toList_append, List.getElem?_toArray, List.getElem?_cons_succ, List.getElem?_cons_zero, Option.bind_some, reduceCtorEq, Nat.reduceEqDiff, List.nil_append, List.append_nil, List.cons_append, List.length_nil, List.map_cons, List.map_nil, Nat.zero_add, Int.reduceToNat, ite_true, ite_false, Bool.if_false_right, Bool.decide_eq_true, Bool.and_self, and_self, Bool.not_eq_true', pickOK_nil, cInt_dec, cBool_dec, List.toList_toArray, Int.reduceLE, lOne_dec, lCons_dec, dec2_some, List.contains_nil, List.range'_zero, C1by_ns, C1by_pre, C1by_r, C1by_H, optP_some, optV_some, optH_some, tk9, kOf]
  have ea : decide ((a == []) = false) = !(a == []) := by cases a <;> rfl
  rw [ea]
  refine ⟨fun h => ⟨h, ?_⟩, fun h => ⟨h, ?_⟩, ?_⟩
  · cases b with
    | nil => simp at h
    | cons => simp
  · cases a with
    | nil => simp at h
    | cons x a => simp only [List.length_cons] at ha ⊢; rw [wrap64 (by omega) (by omega)]; omega
  · cases a with
    | nil => simp [spaced]
    | cons x a =>
      simp only [List.length_cons] at ha ⊢
      rw [wrap64 (by omega) (by omega)]
      simp only [spaced, List.length_cons]
      rw [show (((a.length + 1 : Nat) : Int) - 1).toNat = a.length + 1 - 1 by omega]

def joinStep (x : List UInt8 × Int) (s : List UInt8) : List UInt8 × Int :=
  let t := trimL s
  ((if spaced x.1 t = true then x.1 ++ [32] else x.1) ++ t, if spaced x.1 t = true then (x.1.length : Int) else if (t == []) = true then max ((x.1.length : Int) - 1) 0 else x.1.length)

def join (ls : Ls) (l n : Int) : Ch × Int × Bool :=
  if (decide (n < 2) || decide (l < 0) || decide (l ≥ ls.length) || decide (n > ls.length - l)) = true then ((0, [], []), 0, false)
  else
    let r := (cutL ls (l + 1).toNat (l + n).toNat).foldl joinStep (ls.getD l.toNat [], 0)
    ((l, cutL ls l.toNat (l + n).toNat, [r.1]), r.2, true)

def kSpaced : C1 := C1.by [.id, .id] (lCons cStr (lOne cStr)) (fun d => d.1.length ≤ 140737488355328) (fun d => .bool (spaced d.1 d.2)) (fun _ => [])
theorem ok_spaced : C1OK Tryd.prog 39 kSpaced := C1OK.by (by kernel_rfl) (fun d h => calls_spaced d.1 d.2 h) (fun _ => rfl) (fun _ => rfl)

theorem trimL_len (s : List UInt8) : (trimL s).length ≤ s.length := (List.dropWhile_sublist _).length_le

theorem joinStep_len (x : List UInt8 × Int) (s : List UInt8) : (joinStep x s).1.length ≤ x.1.length + s.length + 1 := by
  have := trimL_len s
  simp only [joinStep]
  split <;> simp <;> omega

/-- The first so many of some lines, joined to one. -/
def joinK (s : List UInt8) (l : Ls) (k : Nat) : List UInt8 × Int := (l.take k).foldl joinStep (s, 0)
theorem joinK_succ (s : List UInt8) (l : Ls) (k : Nat) (h : k < l.length) : joinK s l (k + 1) = joinStep (joinK s l k) (l.getD k []) := by
  unfold joinK
  rw [take_succ_getD l k [] h, List.foldl_append]; rfl
theorem joinK_len (s : List UInt8) (l : Ls) (B : Nat) (h : ∀ i, (l.getD i []).length ≤ B) (k : Nat) : k ≤ l.length → (joinK s l k).1.length ≤ s.length + k * (B + 1) := by
  induction k with
  | zero => intro _; simp [joinK]
  | succ k ih =>
    intro hk
    rw [joinK_succ s l k (by omega), Nat.add_mul]
    have h1 := joinStep_len (joinK s l k) (l.getD k [])
    have h2 := h k
    have h3 := ih (by omega)
    omega

set_option maxRecDepth 20000 in
set_option maxHeartbeats 4000000 in
theorem calls_Join (ls : Ls) (l n : Int) (hs : few ls) (hl1 : -9223372036854775808 ≤ l ∧ l ≤ 9223372036854775807) :
    CallsR Tryd.prog 19 [.sl 1 (ls.map .str), .int .i64 l, .int .i64 n] [] (.tuple [aCh (join ls l n).1, .int .i64 (join ls l n).2.1, .bool (join ls l n).2.2]) [] := by
  refine callsR_of (mrg := true) (dyn := []) (CtrOK.cons ok_TrimLeft (CtrOK.cons ok_spaced (CtrOK.cons ok_changed (CtrOK.nil _)))) mixed Tryd.func19 rfl (by simp [Tryd.ntmps19]) (by kernel_rfl) ?_
  rw [show Tryd.f19.results.toList = [.cell 6 31, .tmp 7, .tmp 8] from by kernel_rfl]
  have hl0 := hs.1
  by_cases hlr : 0 ≤ l ∧ l < ls.length
  case neg =>
    have e : (decide (l < 0) || decide (l ≥ (ls.length : Int))) = true := by simp only [Bool.or_eq_true, decide_eq_true_eq]; omega
    have e2 : (decide (n < 2) || decide (l < 0) || decide (l ≥ (ls.length : Int))) = true := by rw [Bool.or_assoc, e, Bool.or_true]
    simp (maxSteps := 4000000) only [↓wpA_H, ↓wpH_ret, ↓wpH_seq, ↓wpH_cond, ↓wpH_region, ↓iselH_true, bselH_false, runH_nil, runH_cons, gw, gselH_plain, gselH_if, kselH_1, cselH_bool, gkind, ↓chk, justK, noW, ↓oneK, ↓pureK, ↓heapK, envOf, ↓thenA_normal, ↓thenA_ret, ↓stepEv, opnd, Pg.look, binK, intOp, dstOf, Bool.not_true, Bool.false_eq_true, Bool.true_eq_false, implies_true, imp_self, true_and, and_true, pickC, pickV, unc, gof, mux, mergeK, condsL, valV, heapV, footV, binV, intV, mergeable, look_stripE, ofV, ofLeaf, sameK, retA, resK, tupA, subA, subQ, ptrsE, frzO, subF, subG, pickOf, frzE, frzC, frzL, frz0, frzH, Pg.freeze, List.foldl_nil, subOs, subEv, subV_succ, subM, subL, slen, ldCells, objAt, res_succ, resM, AV.cells, TK.cells, AV.definite, AV.leaf, AV.leafy, putCells, lay, buildL, Op.operands, Call.operands, Array.toList_append, List.getElem?_toArray, List.getElem?_cons_succ, List.getElem?_cons_zero, Option.bind_some, Option.getD_some, reduceCtorEq, Nat.reduceEqDiff, Nat.reduceAdd, List.nil_append, List.append_nil, List.length_cons, List.length_nil, List.map_nil, List.set_cons_zero, Nat.zero_add, ite_true, ite_false, Option.some.injEq, Option.isSome_some, AV.int.injEq, AV.agg.injEq, Bool.if_true_left, Bool.decide_eq_true, decide_eq_true_eq, decide_eq_false_iff_not, Int.not_lt, List.all_cons, List.all_nil, Bool.and_self, and_self, Bool.not_eq_true', exists_eq_left', pickOK_nil, List.length_map, List.toList_toArray, List.contains_nil, Bool.true_or, List.getD_cons_zero, cutL, List.drop_zero, List.drop_succ_cons, List.take_succ_cons, List.take_zero, Nat.sub_zero, Nat.le_refl, List.drop_nil, List.take_nil, Nat.zero_lt_succ, tk22, tk31, tz31, dz31, kTrimLeft, kSpaced, kChanged, aCh, join, e2]
  have w1 : IntKind.i64.wrap ((ls.length : Int) - l) = ls.length - l := wrap64 (by omega) (by omega)
  cases hc : (decide (n < 2) || decide (l < 0) || decide (l ≥ (ls.length : Int)) || decide (n > (ls.length : Int) - l)) with
  | true =>
    simp (maxSteps := 4000000) only [↓wpA_H, ↓wpH_ret, ↓wpH_seq, ↓wpH_cond, ↓wpH_region, ↓iselH_true, bselH_false, runH_nil, runH_cons, gw, gselH_plain, gselH_if, kselH_1, cselH_bool, gkind, ↓chk, justK, noW, ↓oneK, ↓pureK, ↓heapK, envOf, ↓thenA_normal, ↓thenA_ret, ↓stepEv, opnd, Pg.look, binK, intOp, dstOf, Bool.false_eq_true, implies_true, imp_self, true_and, and_true, pickC, pickV, unc, gof, mux, mergeK, condsL, valV, heapV, footV, binV, intV, mergeable, look_stripE, ofV, ofLeaf, sameK, retA, resK, tupA, subA, subQ, ptrsE, frzO, subF, subG, pickOf, frzE, frzC, frzL, frz0, frzH, Pg.freeze, List.foldl_nil, subOs, subEv, subV_succ, subM, subL, slen, ldCells, objAt, res_succ, resM, AV.cells, TK.cells, AV.definite, AV.leaf, AV.leafy, putCells, lay, buildL, Op.operands, Call.operands, Array.toList_append, List.getElem?_toArray, List.getElem?_cons_succ, List.getElem?_cons_zero, Option.bind_some, Option.getD_some, reduceCtorEq, Nat.reduceEqDiff, Nat.reduceAdd, List.nil_append, List.append_nil, List.length_cons, List.length_nil, List.map_nil, List.set_cons_zero, Nat.zero_add, ite_true, ite_false, Option.some.injEq, Option.isSome_some, AV.int.injEq, AV.agg.injEq, Bool.if_true_left, Bool.decide_eq_true, decide_eq_true_eq, decide_eq_false_iff_not, Int.not_lt, List.all_cons, List.all_nil, Bool.and_self, and_self, Bool.not_eq_true', exists_eq_left', pickOK_nil, List.length_map, List.toList_toArray, List.contains_nil, List.getD_cons_zero, cutL, List.drop_zero, List.drop_succ_cons, List.take_succ_cons, List.take_zero, Nat.sub_zero, Nat.le_refl, List.drop_nil, List.take_nil, Nat.zero_lt_succ, tk22, tk31, tz31, dz31, kTrimLeft, kSpaced, kChanged, aCh, join, hc, w1]
  | false =>
    have hc2 := hc
    simp only [Bool.or_eq_false_iff, decide_eq_false_iff_not] at hc2
    obtain ⟨⟨⟨c1, c2⟩, c3⟩, c4⟩ := hc2
    have w2 : IntKind.i64.wrap (l + 1) = l + 1 := wrap64 (by omega) (by omega)
    have w3 : IntKind.i64.wrap (l + n) = l + n := wrap64 (by omega) (by omega)
    simp (maxSteps := 4000000) only [↓wpA_H, ↓wpH_skip, ↓wpH_seq, ↓wpH_cond, ↓wpH_block, ↓wpH_loop, ↓wpH_region, ↓iselH_false, bselH_false, runH_nil, runH_cons, gw, gselH_plain, gselH_if, kselH_1, cselH_bool, gkind, ↓chk, justK, noW, ↓oneK, ↓pureK, ↓heapK, envOf, ↓thenA_normal, ↓stepEv, opnd, Pg.look, binK, intOp, dstOf, Bool.false_eq_true, implies_true, imp_self, true_and, and_true, pickC, pickV, unc, gof, mux, mergeK, condsL, valV, heapV, footV, binV, intV, cutV, mergeable, look_stripE, ofV, ofLeaf, sameK, slen, ldCells, sliceL, AV.cells, TK.cells, AV.definite, Op.operands, Call.operands, Array.toList_append, List.getElem?_toArray, List.getElem?_cons_succ, List.getElem?_cons_zero, Option.bind_some, Option.map_some, Option.map_none, Option.getD_some, reduceCtorEq, Nat.reduceEqDiff, Nat.reduceAdd, List.nil_append, List.length_cons, List.length_nil, Nat.zero_add, ite_true, ite_false, Option.some.injEq, AV.int.injEq, Bool.if_true_left, Bool.decide_eq_true, decide_eq_true_eq, decide_eq_false_iff_not, Int.not_lt, Bool.and_self, and_self, Bool.not_eq_true', exists_eq_left', List.length_map, List.toList_toArray, List.contains_nil, ← List.map_drop, ← List.map_take, getD_str, cutL, tk9, dz9, tk22, tz31, kTrimLeft, kSpaced, kChanged, hc, w1, w2, w3]
    refine ⟨by omega, by omega, ?_⟩
    have hcb : ∀ i, ((cutL ls (l + 1).toNat (l + n).toNat).getD i []).length ≤ 1048576 := fun i => by
      rw [cutL, List.getD_eq_getElem?_getD, List.getElem?_take]
      split
      · rw [List.getElem?_drop, ← List.getD_eq_getElem?_getD]; exact hs.2 _
      · simp
    have hcl : (cutL ls (l + 1).toNat (l + n).toNat).length = (n - 1).toNat := by
      rw [cutL, List.length_take, List.length_drop]; omega
    have ej : join ls l n = _ := if_neg (by rw [hc]; decide)
    rw [ej]
    have hs0 := hs.2 l.toNat
    generalize ls.getD l.toNat [] = s0 at hs0 ⊢
    have hc3 : (ls.drop (l + 1).toNat).take ((l + n).toNat - (l + 1).toNat) = cutL ls (l + 1).toNat (l + n).toNat := rfl
    rw [hc3]
    generalize hcd : cutL ls (l + 1).toNat (l + n).toNat = cd at hcb hcl ⊢
    have hj : cd.foldl joinStep (s0, 0) = joinK s0 cd cd.length := by rw [joinK, List.take_length]
    refine loopH_intro (α := Nat) (fun k => ([(0, .sl 1 (ls.map .str)), (1, .int .i64 l), (2, .int .i64 n), (6, .ptr 0 3 1 0 0), (7, .int .i64 0), (8, .bool false), (9, .str (joinK s0 cd k).1), (10, .int .i64 (joinK s0 cd k).2), (44, .sl 1 (cd.map .str)), (45, .int .i64 cd.length), (46, .int .i64 k)], [.arr 31 3 [.agg [.int .i64 0, .nls, .nls]]])) (fun k => k ≤ cd.length) (fun k => cd.length - k) 0 (by omega) ?_ ?_
    · simp (maxSteps := 4000000) only [Pg.look, true_and, and_true, subA, subQ, ptrsE, pairsO, frzO, subF, subG, pickOf, assocN, pairsE, pairsC, pairsL, pairs0, frzE, frzC, frzL, frz0, frzH, Pg.freeze, List.foldl_nil, subOs, subO, subEv, subV_succ, subM, List.getElem?_cons_zero, reduceCtorEq, Nat.reduceEqDiff, List.nil_append, List.append_nil, ite_true, ite_false, and_self, pickOK_one, Int.cast_ofNat_Int, Nat.lt_irrefl]
      exact ⟨subX_eq rfl rfl, rfl, rfl⟩
    intro k hk
    have hkl := joinK_len s0 cd 1048576 hcb k hk
    have hk2 : k * (1048576 + 1) ≤ 1048576 * 1048577 := Nat.mul_le_mul (by omega) (by omega)
    by_cases hlt : k < cd.length
    · have hct : decide ((k : Int) < (cd.length : Int)) = true := decide_eq_true (by omega)
      have hnx := joinK_succ s0 cd k hlt
      have htl := trimL_len (cd.getD k [])
      have hcb2 := hcb k
      generalize hx : joinK s0 cd k = x at hnx hkl
      obtain ⟨a, c0⟩ := x
      simp only [joinStep] at hnx
      simp only at hkl
      have w4 : IntKind.i64.wrap ((a.length : Int) - 1) = a.length - 1 := wrap64 (by omega) (by omega)
      have w5 : IntKind.i64.wrap ((k : Int) + 1) = ((k + 1 : Nat) : Int) := by rw [wrap64 (by omega) (by omega)]; rfl
      simp (maxSteps := 4000000) only [↓wpA_H, ↓wpH_skip, ↓wpH_seq, ↓wpH_cond, ↓wpH_block, ↓wpH_region, ↓iselH_true, iselH_if, bselH_false, runH_nil, runH_cons, gw, gselH_plain, cselH_bool, ↓chk, justK, noW, ↓oneK, ↓pureK, ↓heapK, ↓thenA_normal, ↓blockA_normal, ↓stepEv, opnd, Pg.look, binK, intOp, strOp, Bool.false_eq_true, false_implies, implies_true, true_and, and_true, valV, heapV, footV, binV, intV, strV, ofV, ofLeaf, subA, subQ, ptrsE, pairsO, frzO, subF, subG, pickOf, assocN, pairsE, pairsC, pairsL, pairs0, frzE, frzC, frzL, frz0, frzH, Pg.freeze, List.foldl_nil, subOs, subO, subEv, subV_succ, subM, ldCells, ↓callT, callC, callV, callH, normArgs, normA, normC, resL, res8_eq, res_succ, resM, shiftR, shift1, AV.cells, TK.cells, foldInts, List.getElem?_cons_zero, Option.getD_some, reduceCtorEq, Nat.reduceEqDiff, List.nil_append, List.append_nil, List.cons_append, List.length_cons, List.length_nil, List.map_cons, List.map_nil, Nat.zero_add, ite_true, ite_false, Option.some.injEq, AV.int.injEq, Prod.mk.injEq, and_self, exists_eq_left', pickOK_one, List.length_map, List.length_append, cStr_dec, lOne_dec, lCons_dec, dec2_some, List.contains_nil, List.range'_zero, C1by_ns, C1by_pre, C1by_r, C1by_H, optP_some, optV_some, optH_some, getD_str, Int.toNat_natCast, cutL, Nat.reduceLeDiff, Nat.lt_irrefl, tk9, dz9, tk22, kTrimLeft, kSpaced, kChanged, hct, w4, w5]
      refine ⟨by omega, by omega, fun hsp => ?_, fun hsp => ⟨fun ht => ?_, fun ht => ?_⟩⟩
      · simp only [hsp, if_true] at hnx
        exact ⟨by omega, by omega, k + 1, by omega, by omega, subX_eq rfl rfl, by rw [hnx], by rw [hnx], rfl⟩
      · simp only [hsp, ht, if_true, Bool.false_eq_true, if_false] at hnx
        exact ⟨by omega, k + 1, by omega, by omega, subX_eq rfl rfl, by rw [hnx], by rw [hnx], rfl⟩
      · simp only [hsp, ht, Bool.false_eq_true, if_false] at hnx
        exact ⟨by omega, k + 1, by omega, by omega, subX_eq rfl rfl, by rw [hnx], by rw [hnx], rfl⟩
    · have hcf : decide ((k : Int) < (cd.length : Int)) = false := decide_eq_false (by omega)
      have hke : cd.length = k := by omega
      simp (maxSteps := 4000000) only [↓wpA_H, ↓wpH_ret, ↓wpH_exit, ↓wpH_seq, ↓wpH_cond, ↓wpH_region, ↓iselH_false, bselH_false, runH_nil, runH_cons, gw, gselH_plain, cselH_bool, ↓chk, justK, noW, ↓oneK, ↓pureK, ↓heapK, ↓thenA_normal, ↓thenA_exit, ↓blockA_exit, ↓stepEv, opnd, Pg.look, binK, intOp, Bool.false_eq_true, false_implies, implies_true, true_and, and_true, valV, heapV, footV, binV, intV, ofV, ofLeaf, retA, resK, tupA, subA, subQ, ptrsE, frzO, subF, subG, pickOf, frzE, frzC, frzL, frz0, frzH, Pg.freeze, List.foldl_nil, List.foldl_cons, subOs, subEv, subV_succ, subM, subL, ldCells, objAt, ↓callT, callC, callV, callH, normArgs, normA, normC, resL, res8_eq, res_succ, resM, shiftR, shift1, AV.cells, TK.cells, AV.definite, AV.leaf, AV.leafy, AV.pureLeaf, AV.pureB, putCells, lay, frzAt, List.getElem?_cons_succ, List.getElem?_cons_zero, reduceCtorEq, Nat.reduceEqDiff, Nat.reduceAdd, List.nil_append, List.append_nil, List.cons_append, List.length_cons, List.length_nil, List.map_cons, List.map_nil, List.set_cons_zero, List.set_cons_succ, Nat.zero_add, ite_true, ite_false, Option.some.injEq, Option.isSome_some, Prod.mk.injEq, List.all_cons, List.all_nil, Bool.and_self, and_self, exists_eq_left', pickOK_nil, cInt_dec, rg1, cStr_dec, cSl_dec, lOne_dec, lCons_dec, dec2_some, List.contains_nil, beq_self_eq_true, decL_nil, decL_cons, consO_some, List.range'_zero, Nat.reducePow, decL_str, C1by_ns, C1by_pre, C1by_r, C1by_H, optP_some, optV_some, optH_some, List.getD_cons_zero, cutL, List.drop_zero, List.drop_succ_cons, List.take_succ_cons, List.take_zero, Nat.sub_zero, Nat.reduceLeDiff, Nat.le_refl, Nat.mul_one, List.drop_nil, List.take_nil, Nat.zero_lt_succ, eb9, tk22, tk31, dz31, kTrimLeft, kSpaced, kChanged, aCh, hcf, hj]
      rw [hke]
      exact ⟨by omega, rfl, rfl⟩

def kJoin : C1 := C1.by [.sl 1 [], .id, .id] (lCons cStrs (lCons (cInt .i64) (lOne (cInt .i64)))) (fun d => few d.1 ∧ -9223372036854775808 ≤ d.2.1 ∧ d.2.1 ≤ 9223372036854775807)
  (fun d => .tuple [aCh (join d.1 d.2.1 d.2.2).1, .int .i64 (join d.1 d.2.1 d.2.2).2.1, .bool (join d.1 d.2.1 d.2.2).2.2]) (fun _ => [])
theorem ok_Join : C1OK Tryd.prog 19 kJoin := C1OK.by (by kernel_rfl) (fun d h => calls_Join d.1 d.2.1 d.2.2 h.1 h.2) (fun _ => rfl) (fun _ => rfl)
end Go.Pg
