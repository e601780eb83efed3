/- Plain law of bytes of one line that are put into one line. Just how much may be put at once. -/
import Derived.Test.YtombifgcpghkgaaPgFx9
namespace Go.Pg
open Go Go.Proofs

theorem charsT_one (x : List UInt8) (m : Nat) : charsT [x] m = [Lib.repeatL x (m + 1)] := by
  induction m with
  | zero => simp [charsT, Lib.repeatL]
  | succ m ih =>
    have e : Lib.repeatL x (m + 1) ++ x = Lib.repeatL x (m + 1 + 1) := by
      rw [Lib.repeatL_add x (m + 1) 1, Lib.repeatL_one]
    simp only [charsT, ih, List.length_cons, List.length_nil, List.drop_succ_cons, List.drop_nil, List.append_nil, Nat.zero_add, Nat.sub_self, List.set_cons_zero, List.getD_cons_zero, e]

/-- Where it comes. -/
def oneCol (s : List UInt8) (c : Int) (before : Bool) : Int := if before = true then c else min (c + 1) s.length
def oneLine (s x : List UInt8) (c : Int) (before : Bool) (n : Int) : List UInt8 := s.take (oneCol s c before).toNat ++ Lib.repeatL x n.toNat ++ s.drop (oneCol s c before).toNat

theorem put_one (s x : List UInt8) (c : Int) (before : Bool) (n : Int) (h0 : 0 ≤ c) (h1 : c ≤ s.length) (hm : mayR (0, [x]) n = true) :
    atR [s] (0, c) (0, [x]) before n = ((0, [s], [oneLine s x c before n]), (0, oneCol s c before + max (((Lib.repeatL x n.toNat).length : Int) - 1) 0), true) ∧
    apply1 [s] (0, [s], [oneLine s x c before n]) = ([oneLine s x c before n], true) ∧
    putF [s] (0, c) (0, [x]) before n = ((0, [s], [oneLine s x c before n]), clampP [oneLine s x c before n] (0, oneCol s c before + max (((Lib.repeatL x n.toNat).length : Int) - 1) 0) false, true) := by
  obtain ⟨⟨n1, n2⟩, _⟩ := fine_may hm
  have hc : 0 ≤ oneCol s c before ∧ oneCol s c before ≤ s.length := by
    unfold oneCol
    split <;> omega
  have ep : (if before = true then ((0 : Int), c) else (0, min (c + 1) ((([s] : Ls).getD (0 : Int).toNat []).length : Int))) = (0, oneCol s c before) := by
    unfold oneCol
    cases before <;> rfl
  have en : (n - 1).toNat + 1 = n.toNat := by omega
  have hpl : place [s] 0 (oneCol s c before) = true := by
    rw [place_iff]
    exact ⟨by omega, Nat.zero_lt_one, hc.1, hc.2⟩
  have hpl2 : place [s] 0 c = true := by
    rw [place_iff]
    exact ⟨by omega, Nat.zero_lt_one, h0, h1⟩
  have hw : write [s] 0 (oneCol s c before) [Lib.repeatL x n.toNat] = (((0 : Int), [s], [oneLine s x c before n]), ((0 : Int), ((s.take (oneCol s c before).toNat ++ Lib.repeatL x n.toNat).length : Int)), true) := by
    unfold write
    rw [if_pos (by rw [hpl]; rfl)]
    rfl
  have e1 : atR [s] (0, c) (0, [x]) before n = ((0, [s], [oneLine s x c before n]), (0, oneCol s c before + max (((Lib.repeatL x n.toNat).length : Int) - 1) 0), true) := by
    have e2 : atR [s] (0, c) (0, [x]) before n = charsR [s] (if before = true then ((0 : Int), c) else (0, min (c + 1) ((([s] : Ls).getD (0 : Int).toNat []).length : Int))) (0, [x]) n := if_pos rfl
    rw [e2, ep]
    unfold charsR
    simp only [charsT_one, en, hw]
    rfl
  have e3 : apply1 [s] (0, [s], [oneLine s x c before n]) = ([oneLine s x c before n], true) := by
    have := apply1_at [s] 0 [oneLine s x c before n] (by omega) Nat.zero_lt_one (by simp)
    simpa using this
  refine ⟨e1, e3, ?_⟩
  unfold putF
  rw [if_pos (by simp only [hpl2, hm, e1]; rfl), e1]
  simp only [e3]

theorem clamp_one (s : List UInt8) (c : Int) (h0 : 0 ≤ c) (h1 : c < s.length) : clampP [s] (0, c) false = (0, c) := by
  unfold clampP
  rw [if_neg (by simp)]
  simp only [Bool.false_eq_true, if_false, List.length_cons, List.length_nil]
  have e : min (max (0 : Int) 0) (((0 + 1 : Nat) : Int) - 1) = 0 := by omega
  rw [e]
  have e2 : (([s] : Ls).getD (0 : Int).toNat []) = s := rfl
  rw [e2]
  congr 1
  omega
theorem oneLine_length (s x : List UInt8) (c : Int) (before : Bool) (n : Int) : (oneLine s x c before n).length = s.length + n.toNat * x.length := by
  unfold oneLine
  rw [List.length_append, List.length_append, Lib.repeatL_length, List.length_take, List.length_drop]
  omega

set_option maxRecDepth 20000 in
set_option maxHeartbeats 4000000 in
theorem calls_PutWords (s x : List UInt8) (a n : Int) (before : Bool) (hs : s.length ≤ 140737488355328) (hx : x.length ≤ 140737488355328) (ha : 0 ≤ a ∧ a < 65536) (hn : 0 ≤ n ∧ n < 256) :
    CallsR Try.prog 10 [.str s, .str x, .int .u16 a, .int .u8 n, .bool before] [] (.bool true) [] := by
  refine callsR_of (mrg := false) (dyn := []) (CtrOK.cons ok_pknown (CtrOK.cons ok_Light (CtrOK.cons ok_PDo (CtrOK.cons ok_Strings (CtrOK.nil _))))) mixed Try.func10 rfl (by simp [Try.ntmps10]) (by kernel_rfl) ?_
  rw [show Try.f10.results.toList = [.tmp 10] from by kernel_rfl]
  by_cases h1 : s.length ≤ 100
  case neg =>
    have e1 : decide ((s.length : Int) > 100) = true := decide_eq_true (by omega)
    simp (maxSteps := 4000000) only [↓wpA_H, ↓wpH_skip, ↓wpH_ret, ↓wpH_seq, ↓wpH_cond, ↓wpH_region, ↓iselH_true, ↓iselH_false, bselH_false, runH_nil, runH_cons, ↓fixG, setG, gw, gselH_plain, gselH_if, kselH_2, cselH_bool, gkind, ↓chk, justK, ↓oneK, ↓pureK, envOf, ↓thenA_normal, ↓thenA_ret, ↓stepEv, opnd, Pg.look, binK, intOp, dstOf, Bool.and_true, Bool.not_false, Bool.not_true, Bool.false_eq_true, Bool.true_eq_false, false_implies, implies_true, and_true, pickC, pickV, unc, gof, mux, valV, heapV, footV, binV, intV, mergeable, ofV, ofLeaf, retA, resK, tupA, subA, subQ, ptrsE, frzO, subF, subG, pickOf, frzE, frzC, frz0, frzH, Pg.freeze, List.foldl_nil, subOs, subEv, subV_succ, subM, ↓callT, callC, callV, callH, normArgs, resL, shiftR, shift1, List.getElem?_toArray, List.getElem?_cons_succ, List.getElem?_cons_zero, Option.bind_some, reduceCtorEq, Nat.reduceEqDiff, Nat.reduceAdd, List.nil_append, List.append_nil, List.length_nil, List.map_nil, Nat.zero_add, ite_true, ite_false, Prod.mk.injEq, Bool.and_self, and_self, pickOK_nil, lNil_dec, List.contains_nil, List.range'_zero, C1by_ns, C1by_pre, C1by_r, C1by_H, optP_some, optV_some, optH_some, tk9, kPKnown, kLight, kPDo, kStrings, aPos, aCh, e1]
  have e1 : decide ((s.length : Int) > 100) = false := decide_eq_false (by omega)
  by_cases h2 : x.length ≤ 40
  case neg =>
    have e2 : decide ((x.length : Int) > 40) = true := decide_eq_true (by omega)
    simp (maxSteps := 4000000) only [↓wpA_H, ↓wpH_skip, ↓wpH_ret, ↓wpH_seq, ↓wpH_cond, ↓wpH_region, ↓iselH_true, ↓iselH_false, bselH_false, runH_nil, runH_cons, ↓fixG, setG, gw, gselH_plain, gselH_if, kselH_2, cselH_bool, gkind, ↓chk, justK, ↓oneK, ↓pureK, envOf, ↓thenA_normal, ↓thenA_ret, ↓stepEv, opnd, Pg.look, binK, intOp, dstOf, Bool.and_true, Bool.not_false, Bool.not_true, Bool.false_eq_true, Bool.true_eq_false, false_implies, implies_true, and_true, pickC, pickV, unc, gof, mux, valV, heapV, footV, binV, intV, mergeable, ofV, ofLeaf, retA, resK, tupA, subA, subQ, ptrsE, frzO, subF, subG, pickOf, frzE, frzC, frz0, frzH, Pg.freeze, List.foldl_nil, subOs, subEv, subV_succ, subM, ↓callT, callC, callV, callH, normArgs, resL, shiftR, shift1, List.getElem?_toArray, List.getElem?_cons_succ, List.getElem?_cons_zero, Option.bind_some, reduceCtorEq, Nat.reduceEqDiff, Nat.reduceAdd, List.nil_append, List.append_nil, List.length_nil, List.map_nil, Nat.zero_add, ite_true, ite_false, Prod.mk.injEq, Bool.and_self, and_self, pickOK_nil, lNil_dec, List.contains_nil, List.range'_zero, C1by_ns, C1by_pre, C1by_r, C1by_H, optP_some, optV_some, optH_some, tk9, kPKnown, kLight, kPDo, kStrings, aPos, aCh, e1, e2]
  have e2 : decide ((x.length : Int) > 40) = false := decide_eq_false (by omega)
  cases e3 : x == [] with
  | true =>
    simp (maxSteps := 4000000) only [↓wpA_H, ↓wpH_skip, ↓wpH_ret, ↓wpH_seq, ↓wpH_cond, ↓wpH_region, ↓iselH_true, ↓iselH_false, bselH_false, runH_nil, runH_cons, ↓fixG, setG, gw, gselH_plain, gselH_if, kselH_2, cselH_bool, gkind, ↓chk, justK, ↓oneK, ↓pureK, envOf, ↓thenA_normal, ↓thenA_ret, ↓stepEv, opnd, Pg.look, binK, intOp, strOp, dstOf, Bool.and_true, Bool.not_false, Bool.not_true, Bool.false_eq_true, Bool.true_eq_false, false_implies, implies_true, and_true, pickC, pickV, unc, gof, mux, valV, heapV, footV, binV, intV, strV, mergeable, ofV, ofLeaf, retA, resK, tupA, subA, subQ, ptrsE, frzO, subF, subG, pickOf, frzE, frzC, frz0, frzH, Pg.freeze, List.foldl_nil, subOs, subEv, subV_succ, subM, ↓callT, callC, callV, callH, normArgs, resL, shiftR, shift1, List.getElem?_toArray, List.getElem?_cons_succ, List.getElem?_cons_zero, Option.bind_some, reduceCtorEq, Nat.reduceEqDiff, Nat.reduceAdd, List.nil_append, List.append_nil, List.length_nil, List.map_nil, Nat.zero_add, ite_true, ite_false, Prod.mk.injEq, Bool.and_self, and_self, pickOK_nil, lNil_dec, List.contains_nil, List.range'_zero, C1by_ns, C1by_pre, C1by_r, C1by_H, optP_some, optV_some, optH_some, tk9, kPKnown, kLight, kPDo, kStrings, aPos, aCh, e1, e2, e3]
  | false =>
  cases e4 : light [s, x] with
  | false =>
    simp (maxSteps := 4000000) only [↓wpA_H, ↓wpH_skip, ↓wpH_ret, ↓wpH_seq, ↓wpH_cond, ↓wpH_region, ↓iselH_true, ↓iselH_false, bselH_false, runH_nil, runH_cons, ↓fixG, setG, gw, gselH_plain, gselH_if, kselH_2, cselH_bool, gkind, ↓chk, justK, noW, ↓oneK, ↓pureK, ↓heapK, envOf, ↓thenA_normal, ↓thenA_ret, ↓stepEv, opnd, Pg.look, binK, intOp, strOp, dstOf, Bool.and_true, Bool.not_false, Bool.not_true, Bool.false_eq_true, false_implies, implies_true, true_and, and_true, pickC, pickV, unc, gof, mux, valV, heapV, footV, binV, intV, strV, mergeable, ofV, ofLeaf, retA, resK, tupA, subA, subQ, ptrsE, frzO, subF, subG, pickOf, frzE, frzC, frz0, frzH, Pg.freeze, List.foldl_nil, List.foldl_cons, subOs, subEv, subV_succ, subM, objAt, ↓callT, callC, callV, callH, normArgs, normA, normC, resL, res8_eq, res_succ, resM, shiftR, shift1, AV.cells, AV.definite, AV.pureLeaf, AV.pureB, frzAt, List.getElem?_toArray, List.getElem?_cons_succ, List.getElem?_cons_zero, Option.bind_some, reduceCtorEq, Nat.reduceEqDiff, Nat.reduceAdd, List.nil_append, List.append_nil, List.cons_append, List.length_cons, List.length_nil, List.map_cons, List.map_nil, List.set_cons_zero, Nat.zero_add, ite_true, ite_false, Option.isSome_some, Prod.mk.injEq, List.all_cons, List.all_nil, Bool.and_self, and_self, pickOK_nil, rg2, cStr_dec, cSl_dec, lNil_dec, lOne_dec, lCons_dec, List.contains_nil, beq_self_eq_true, decL_nil, decL_cons, consO_some, List.range'_zero, Nat.reducePow, C1by_ns, C1by_pre, C1by_r, C1by_H, optP_some, optV_some, optH_some, Nat.reduceLeDiff, Nat.mul_one, tk9, eb9, tk22, kPKnown, kLight, kPDo, kStrings, aPos, aCh, e1, e2, e3, e4]
    exact fun i => by
      match i with
      | 0 => exact hs
      | 1 => exact hx
      | i + 2 => simp
  | true =>
    have hx0 : 0 < x.length := by
      cases x with
      | nil => cases e3
      | cons => simp
    have w1 : IntKind.i64.wrap a = a := wrap64 (by omega) (by omega)
    have w2 : IntKind.i64.wrap ((s.length : Int) + 1) = s.length + 1 := wrap64 (by omega) (by omega)
    have m1 : a.tmod ((s.length : Int) + 1) = a % (s.length + 1) := Int.tmod_eq_emod_of_nonneg ha.1
    have m2 : n.tmod 4 = n % 4 := Int.tmod_eq_emod_of_nonneg hn.1
    have c1 := Int.emod_nonneg a (b := (s.length : Int) + 1) (by omega)
    have c2 := Int.emod_lt_of_pos a (b := (s.length : Int) + 1) (by omega)
    generalize a % ((s.length : Int) + 1) = c at c1 c2 m1
    have w3 : IntKind.u8.wrap (n % 4) = n % 4 := by rw [IntKind.wrap_u8]; omega
    have w4 : IntKind.i64.wrap (n % 4) = n % 4 := wrap64 (by omega) (by omega)
    have w5 : IntKind.i64.wrap (n % 4 + 1) = n % 4 + 1 := wrap64 (by omega) (by omega)
    have k1 : 1 ≤ n % 4 + 1 ∧ n % 4 + 1 ≤ 4 := by omega
    generalize n % 4 = k0 at w3 w4 w5 k1 m2
    have hany : ([x] : Ls).any has10 = false := by
      have := light_any e4
      simp only [List.any_cons, List.any_nil, Bool.or_false, Bool.or_eq_false_iff] at this ⊢
      exact this.2
    have hm : mayR (0, [x]) (k0 + 1) = true := by
      have hsz : size [x] = x.length + 1 := size_one x
      have hd : 41 ≤ 4096 / (k0 + 1) := by
        rw [Int.le_ediv_iff_mul_le (by omega)]; omega
      unfold mayR
      rw [hany, decide_eq_true (show 1 ≤ k0 + 1 by omega), decide_eq_true (show k0 + 1 ≤ 9999 by omega), decide_eq_true (show size [x] ≤ 4096 / (k0 + 1) by rw [hsz]; omega)]
      rfl
    obtain ⟨p1, p2, p3⟩ := put_one s x c before (k0 + 1) c1 (by omega) hm
    have hlen := oneLine_length s x c before (k0 + 1)
    have hrl := Lib.repeatL_length x (k0 + 1).toNat
    have hmul : (k0 + 1).toNat * x.length ≤ 4 * 40 := Nat.mul_le_mul (by omega) h2
    have hmul2 : 1 * 1 ≤ (k0 + 1).toNat * x.length := Nat.mul_le_mul (by omega) hx0
    have hcb : 0 ≤ oneCol s c before ∧ oneCol s c before ≤ s.length := by
      unfold oneCol
      split <;> omega
    rw [hrl, clamp_one _ _ (by omega) (by rw [hlen]; omega)] at p3
    have hpre : (small [s] ∧ (∀ (i : Nat), (([s] : Ls).getD i []).length ≤ 1099511627775) ∧ few [x] ∧ (place [s] 0 c = true → mayR (0, [x]) (k0 + 1) = true → (atR [s] (0, c) (0, [x]) before (k0 + 1)).2.2 = true →
        small (apply1 [s] (atR [s] (0, c) (0, [x]) before (k0 + 1)).1).1 ∧ (atR [s] (0, c) (0, [x]) before (k0 + 1)).1.2.1.length ≤ 1099511627 ∧ (atR [s] (0, c) (0, [x]) before (k0 + 1)).1.2.2.length ≤ 1099511627)) := by
      refine ⟨⟨by show 1 ≤ _; omega, fun i => ?_⟩, fun i => ?_, ⟨by show 1 ≤ _; omega, fun i => ?_⟩, fun _ _ _ => ?_⟩
      · match i with
        | 0 => show s.length ≤ _; omega
        | i + 1 => simp
      · match i with
        | 0 => show s.length ≤ _; omega
        | i + 1 => simp
      · match i with
        | 0 => show x.length ≤ _; omega
        | i + 1 => simp
      · rw [p1]
        refine ⟨?_, by show 1 ≤ _; omega, by show 1 ≤ _; omega⟩
        simp only [p2]
        refine ⟨by show 1 ≤ _; omega, fun i => ?_⟩
        match i with
        | 0 => show (oneLine s x c before (k0 + 1)).length ≤ _; omega
        | i + 1 => simp
    have hone : oneLine s x c before (k0 + 1) = s.take (oneCol s c before).toNat ++ Lib.repeatL x (k0 + 1).toNat ++ s.drop (oneCol s c before).toNat := rfl
    have hL : ∀ (i : Nat), (([s, x] : Ls).getD i []).length ≤ 140737488355328 := fun i => by
      match i with
      | 0 => exact hs
      | 1 => exact hx
      | i + 2 => simp
    obtain ⟨W, hW⟩ : ∃ W, oneLine s x c before (k0 + 1) = W := ⟨_, rfl⟩
    rw [hW] at hone p3
    have w6 : IntKind.i64.wrap (c + 1) = c + 1 := wrap64 (by omega) (by omega)
    cases before with
    | true =>
      have hcol : oneCol s c true = c := rfl
      rw [hcol] at hone p3 hcb
      simp (maxSteps := 4000000) only [↓wpA_H, ↓wpH_skip, ↓wpH_seq, ↓wpH_cond, ↓wpH_block, ↓wpH_loop, ↓wpH_region, ↓iselH_true, ↓iselH_false, bselH_false, runH_nil, runH_cons, ↓fixG, setG, gw, gselH_plain, gselH_if, kselH_2, cselH_bool, gkind, ↓chk, justK, noW, ↓oneK, ↓pureK, ↓heapK, envOf, ↓thenA_normal, ↓stepEv, opnd, Pg.look, binK, intOp, strOp, dstOf, Bool.and_true, Bool.not_false, Bool.not_true, Bool.false_eq_true, false_implies, implies_true, true_and, and_true, pickC, pickV, unc, gof, mux, valV, heapV, footV, binV, intV, strV, mergeable, ofV, ofLeaf, Pg.freeze, List.foldl_nil, List.foldl_cons, objAt, ↓callT, callC, callV, callH, normArgs, normA, normC, normL, resL, res8_eq, res_succ, resM, shiftR, shift1, AV.cells, TK.cells, AV.definite, AV.leaf, AV.leafy, AV.pureLeaf, AV.pureB, putCells, lay, buildL, frzAt, List.getElem?_toArray, List.getElem?_cons_succ, List.getElem?_cons_zero, Option.bind_some, Option.getD_some, reduceCtorEq, Nat.reduceEqDiff, Nat.reduceAdd, List.nil_append, List.append_nil, List.cons_append, List.length_cons, List.length_nil, List.map_cons, List.map_nil, List.set_cons_zero, List.set_cons_succ, Nat.zero_add, ite_true, ite_false, Option.some.injEq, Option.isSome_some, AV.agg.injEq, Prod.mk.injEq, ne_eq, not_false_eq_true, List.all_cons, List.all_nil, Bool.and_self, and_self, exists_eq_left', cInt_dec, cBool_dec, rg1, rg2, cStr_dec, cSl_dec, cAgg_dec, lNil_dec, lOne_dec, lCons_dec, dec2_some, List.contains_nil, beq_self_eq_true, decL_nil, decL_cons, consO_some, List.range'_zero, Nat.reducePow, C1by_ns, C1by_pre, C1by_r, C1by_H, optP_some, optV_some, optH_some, List.getD_cons_zero, List.drop_succ_cons, List.take_succ_cons, List.take_zero, Nat.reduceLeDiff, Nat.le_refl, Nat.mul_one, List.drop_nil, Nat.zero_lt_succ, tk3, tk5, tk9, eb9, tk22, tk23, tk27, tz27, dz27, tk32, tz32, tk35, tz35, dz35, kPKnown, kLight, kPDo, kStrings, aPos, aCh, e1, e2, e3, e4, w1, w2, w4, w5, m1, m2, p3]
      refine ⟨hL, by omega, by decide, hpre, ?_⟩
      obtain ⟨col, ecol⟩ : ∃ col, c = col := ⟨_, rfl⟩
      rw [ecol] at hone hcb ⊢
      refine loopH_intro (α := Nat) (fun i => ([(0, .str s), (1, .str x), (11, .int .i64 col), (12, .int .i64 (k0 + 1)), (13, .ptr 0 3 1 0 0), (14, .ptr 1 2 1 0 0), (15, .bool true), (16, .str (Lib.repeatL x i)), (17, .int .i64 i)], [.arr 35 3 [.agg [.int .i64 0, .sl 1 [.str s], .sl 1 [.str W]]], .arr 27 2 [.agg [.int .i64 0, .int .i64 (col + max ((((k0 + 1).toNat * x.length : Nat) : Int) - 1) 0)]]]))
        (fun i => (i : Int) ≤ k0 + 1) (fun i => (k0 + 1).toNat - i) 0 (by omega) ?_ ?_
      · simp (maxSteps := 4000000) only [Pg.look, true_and, and_true, subA, subQ, ptrsE, pairsO, frzO, subF, subG, pickOf, assocN, pairsE, pairsC, pairsL, pairs0, frzE, frzC, frzL, frz0, frzH, Pg.freeze, List.foldl_nil, subOs, subO, subEv, subV_succ, subM, List.getElem?_cons_succ, List.getElem?_cons_zero, reduceCtorEq, Nat.reduceEqDiff, List.nil_append, List.append_nil, List.cons_append, Nat.zero_add, ite_true, ite_false, and_self, Int.cast_ofNat_Int, Nat.lt_irrefl, Nat.not_lt_zero]
        exact ⟨rfl, ⟨subX_eq rfl rfl, subX_eq rfl rfl⟩, rfl⟩
      intro i hi
      have hri := Lib.repeatL_length x i
      have hmi : i * x.length ≤ 4 * 40 := Nat.mul_le_mul (by omega) h2
      by_cases hlt : (i : Int) < k0 + 1
      · have hct : decide ((i : Int) < k0 + 1) = true := decide_eq_true hlt
        simp (maxSteps := 4000000) only [↓wpA_H, ↓wpH_skip, ↓wpH_seq, ↓wpH_cond, ↓wpH_block, ↓wpH_region, ↓iselH_true, bselH_false, runH_nil, runH_cons, gw, gselH_plain, cselH_bool, ↓chk, justK, ↓oneK, ↓pureK, ↓thenA_normal, ↓blockA_normal, ↓stepEv, opnd, Pg.look, binK, intOp, strOp, Bool.false_eq_true, implies_true, true_and, and_true, valV, heapV, footV, binV, intV, strV, ofV, ofLeaf, subA, subQ, ptrsE, pairsO, frzO, subF, subG, pickOf, assocN, pairsE, pairsC, pairsL, pairs0, frzE, frzC, frzL, frz0, frzH, Pg.freeze, List.foldl_nil, subOs, subO, subEv, subV_succ, subM, List.getElem?_cons_succ, List.getElem?_cons_zero, reduceCtorEq, Nat.reduceEqDiff, List.nil_append, List.append_nil, List.cons_append, Nat.zero_add, ite_true, ite_false, and_self, List.contains_nil, Nat.lt_irrefl, Nat.not_lt_zero, kPKnown, kLight, kPDo, kStrings, aPos, aCh, hct]
        exact ⟨by omega, i + 1, by omega, by omega, rfl, ⟨subX_eq rfl rfl, subX_eq rfl rfl⟩, by rw [Lib.repeatL_add x i 1, Lib.repeatL_one], by rw [wrap64 (by omega) (by omega)]; rfl⟩
      · have hcf : decide ((i : Int) < k0 + 1) = false := decide_eq_false hlt
        have hik : (k0 + 1).toNat = i := by omega
        rw [hik] at hone hmul2 ⊢
        have w7 : IntKind.i64.wrap (col + ((Lib.repeatL x i).length : Int)) = col + (Lib.repeatL x i).length := wrap64 (by omega) (by omega)
        have w8 : IntKind.i64.wrap (col + ((Lib.repeatL x i).length : Int) - 1) = col + (Lib.repeatL x i).length - 1 := wrap64 (by omega) (by omega)
        simp (maxSteps := 4000000) only [↓wpA_H, ↓wpH_ret, ↓wpH_exit, ↓wpH_seq, ↓wpH_cond, ↓wpH_region, ↓iselH_true, ↓iselH_false, bselH_false, runH_nil, runH_cons, ↓fixG, setG, gw, gselH_plain, gselH_if, kselH_2, cselH_bool, gkind, ↓chk, justK, noW, ↓oneK, ↓pureK, ↓heapK, ↓thenA_normal, ↓thenA_exit, ↓blockA_exit, ↓stepEv, opnd, Pg.look, binK, intOp, strOp, cellsEq, leafEq, dstOf, Bool.and_true, Bool.not_true, Bool.false_eq_true, Bool.true_eq_false, false_implies, implies_true, true_and, and_true, pickC, pickV, unc, gof, mux, valV, heapV, footV, binV, intV, strV, cutV, mergeable, ofV, ofLeaf, retA, resK, tupA, subA, subQ, ptrsE, frzO, subF, subG, pickOf, frzE, frzC, frz0, frzH, Pg.freeze, List.foldl_nil, List.foldl_cons, subOs, subEv, subV_succ, subM, ldCells, objAt, sliceS, ↓callT, callC, callV, callH, normArgs, normA, normC, resL, res8_eq, res_succ, resM, shiftR, shift1, AV.cells, TK.cells, AV.definite, AV.pureLeaf, AV.pureB, lay, buildL, frzAt, List.getElem?_toArray, List.getElem?_cons_succ, List.getElem?_cons_zero, Option.bind_some, Option.map_some, Option.map_none, Option.getD_some, reduceCtorEq, Nat.reduceEqDiff, Nat.reduceAdd, List.nil_append, List.append_nil, List.cons_append, List.length_cons, List.length_nil, List.map_cons, List.map_nil, List.set_cons_zero, List.set_cons_succ, Nat.zero_add, ite_true, ite_false, Option.some.injEq, Option.isSome_some, AV.agg.injEq, Prod.mk.injEq, List.all_cons, List.all_nil, Bool.and_self, and_self, exists_eq_left', pickOK_nil, List.length_append, rg1, cStr_dec, cSl_dec, lOne_dec, lCons_dec, dec2_some, List.contains_nil, beq_self_eq_true, decL_nil, decL_cons, consO_some, List.range'_zero, Nat.reducePow, C1by_ns, C1by_pre, C1by_r, C1by_H, optP_some, optV_some, optH_some, List.getD_cons_zero, cutL, List.drop_zero, List.drop_succ_cons, List.take_succ_cons, List.take_zero, Nat.sub_zero, Nat.reduceLeDiff, Nat.le_refl, Nat.mul_one, List.drop_nil, List.take_nil, Nat.zero_lt_succ, tk9, eb9, tk22, tk27, tz27, dz27, eq27, tk35, dz35, kPKnown, kLight, kPDo, kStrings, aPos, aCh, hcf, w7, w8, hone]
        exact ⟨by omega, by rw [List.length_take]; omega, by omega, by rw [List.length_take, List.length_drop]; omega, by simp only [Bool.true_and, beq_iff_eq]; omega⟩
    | false =>
      have hcol : oneCol s c false = min (c + 1) (s.length : Int) := rfl
      rw [hcol] at hone p3 hcb
      simp (maxSteps := 4000000) only [↓wpA_H, ↓wpH_skip, ↓wpH_seq, ↓wpH_cond, ↓wpH_block, ↓wpH_loop, ↓wpH_region, ↓iselH_true, ↓iselH_false, bselH_false, runH_nil, runH_cons, ↓fixG, setG, gw, gselH_plain, gselH_if, kselH_2, cselH_bool, gkind, ↓chk, justK, noW, ↓oneK, ↓pureK, ↓heapK, envOf, ↓thenA_normal, ↓stepEv, opnd, Pg.look, binK, intOp, strOp, dstOf, Bool.and_true, Bool.not_false, Bool.not_true, Bool.false_eq_true, false_implies, implies_true, true_and, and_true, pickC, pickV, unc, gof, mux, valV, heapV, footV, binV, intV, strV, mergeable, ofV, ofLeaf, Pg.freeze, List.foldl_nil, List.foldl_cons, objAt, ↓callT, callC, callV, callH, normArgs, normA, normC, normL, resL, res8_eq, res_succ, resM, shiftR, shift1, AV.cells, TK.cells, AV.definite, AV.leaf, AV.leafy, AV.pureLeaf, AV.pureB, putCells, lay, buildL, foldInts, frzAt, List.getElem?_toArray, List.getElem?_cons_succ, List.getElem?_cons_zero, Option.bind_some, Option.getD_some, reduceCtorEq, Nat.reduceEqDiff, Nat.reduceAdd, List.nil_append, List.append_nil, List.cons_append, List.length_cons, List.length_nil, List.map_cons, List.map_nil, List.set_cons_zero, List.set_cons_succ, Nat.zero_add, ite_true, ite_false, Option.some.injEq, Option.isSome_some, AV.int.injEq, AV.agg.injEq, Prod.mk.injEq, ne_eq, not_false_eq_true, List.all_cons, List.all_nil, Bool.and_self, and_self, exists_eq_left', cInt_dec, cBool_dec, rg1, rg2, cStr_dec, cSl_dec, cAgg_dec, lNil_dec, lOne_dec, lCons_dec, dec2_some, List.contains_nil, beq_self_eq_true, decL_nil, decL_cons, consO_some, List.range'_zero, Nat.reducePow, C1by_ns, C1by_pre, C1by_r, C1by_H, optP_some, optV_some, optH_some, List.getD_cons_zero, List.drop_succ_cons, List.take_succ_cons, List.take_zero, Nat.reduceLeDiff, Nat.le_refl, Nat.mul_one, List.drop_nil, Nat.zero_lt_succ, tk3, tk5, tk9, eb9, tk22, tk23, tk27, tz27, dz27, tk32, tz32, tk35, tz35, dz35, kPKnown, kLight, kPDo, kStrings, aPos, aCh, e1, e2, e3, e4, w1, w2, w4, w5, w6, m1, m2, p3]
      refine ⟨hL, by omega, by decide, hpre, ?_⟩
      obtain ⟨col, ecol⟩ : ∃ col, min (c + 1) (s.length : Int) = col := ⟨_, rfl⟩
      rw [ecol] at hone hcb ⊢
      refine loopH_intro (α := Nat) (fun i => ([(0, .str s), (1, .str x), (11, .int .i64 col), (12, .int .i64 (k0 + 1)), (13, .ptr 0 3 1 0 0), (14, .ptr 1 2 1 0 0), (15, .bool true), (16, .str (Lib.repeatL x i)), (17, .int .i64 i)], [.arr 35 3 [.agg [.int .i64 0, .sl 1 [.str s], .sl 1 [.str W]]], .arr 27 2 [.agg [.int .i64 0, .int .i64 (col + max ((((k0 + 1).toNat * x.length : Nat) : Int) - 1) 0)]]]))
        (fun i => (i : Int) ≤ k0 + 1) (fun i => (k0 + 1).toNat - i) 0 (by omega) ?_ ?_
      · simp (maxSteps := 4000000) only [Pg.look, true_and, and_true, subA, subQ, ptrsE, pairsO, frzO, subF, subG, pickOf, assocN, pairsE, pairsC, pairsL, pairs0, frzE, frzC, frzL, frz0, frzH, Pg.freeze, List.foldl_nil, subOs, subO, subEv, subV_succ, subM, List.getElem?_cons_succ, List.getElem?_cons_zero, reduceCtorEq, Nat.reduceEqDiff, List.nil_append, List.append_nil, List.cons_append, Nat.zero_add, ite_true, ite_false, and_self, Int.cast_ofNat_Int, Nat.lt_irrefl, Nat.not_lt_zero]
        exact ⟨rfl, ⟨subX_eq rfl rfl, subX_eq rfl rfl⟩, rfl⟩
      intro i hi
      have hri := Lib.repeatL_length x i
      have hmi : i * x.length ≤ 4 * 40 := Nat.mul_le_mul (by omega) h2
      by_cases hlt : (i : Int) < k0 + 1
      · have hct : decide ((i : Int) < k0 + 1) = true := decide_eq_true hlt
        simp (maxSteps := 4000000) only [↓wpA_H, ↓wpH_skip, ↓wpH_seq, ↓wpH_cond, ↓wpH_block, ↓wpH_region, ↓iselH_true, bselH_false, runH_nil, runH_cons, gw, gselH_plain, cselH_bool, ↓chk, justK, ↓oneK, ↓pureK, ↓thenA_normal, ↓blockA_normal, ↓stepEv, opnd, Pg.look, binK, intOp, strOp, Bool.false_eq_true, implies_true, true_and, and_true, valV, heapV, footV, binV, intV, strV, ofV, ofLeaf, subA, subQ, ptrsE, pairsO, frzO, subF, subG, pickOf, assocN, pairsE, pairsC, pairsL, pairs0, frzE, frzC, frzL, frz0, frzH, Pg.freeze, List.foldl_nil, subOs, subO, subEv, subV_succ, subM, List.getElem?_cons_succ, List.getElem?_cons_zero, reduceCtorEq, Nat.reduceEqDiff, List.nil_append, List.append_nil, List.cons_append, Nat.zero_add, ite_true, ite_false, and_self, List.contains_nil, Nat.lt_irrefl, Nat.not_lt_zero, kPKnown, kLight, kPDo, kStrings, aPos, aCh, hct]
        exact ⟨by omega, i + 1, by omega, by omega, rfl, ⟨subX_eq rfl rfl, subX_eq rfl rfl⟩, by rw [Lib.repeatL_add x i 1, Lib.repeatL_one], by rw [wrap64 (by omega) (by omega)]; rfl⟩
      · have hcf : decide ((i : Int) < k0 + 1) = false := decide_eq_false hlt
        have hik : (k0 + 1).toNat = i := by omega
        rw [hik] at hone hmul2 ⊢
        have w7 : IntKind.i64.wrap (col + ((Lib.repeatL x i).length : Int)) = col + (Lib.repeatL x i).length := wrap64 (by omega) (by omega)
        have w8 : IntKind.i64.wrap (col + ((Lib.repeatL x i).length : Int) - 1) = col + (Lib.repeatL x i).length - 1 := wrap64 (by omega) (by omega)
        simp (maxSteps := 4000000) only [↓wpA_H, ↓wpH_ret, ↓wpH_exit, ↓wpH_seq, ↓wpH_cond, ↓wpH_region, ↓iselH_true, ↓iselH_false, bselH_false, runH_nil, runH_cons, ↓fixG, setG, gw, gselH_plain, gselH_if, kselH_2, cselH_bool, gkind, ↓chk, justK, noW, ↓oneK, ↓pureK, ↓heapK, ↓thenA_normal, ↓thenA_exit, ↓blockA_exit, ↓stepEv, opnd, Pg.look, binK, intOp, strOp, cellsEq, leafEq, dstOf, Bool.and_true, Bool.not_true, Bool.false_eq_true, Bool.true_eq_false, false_implies, implies_true, true_and, and_true, pickC, pickV, unc, gof, mux, valV, heapV, footV, binV, intV, strV, cutV, mergeable, ofV, ofLeaf, retA, resK, tupA, subA, subQ, ptrsE, frzO, subF, subG, pickOf, frzE, frzC, frz0, frzH, Pg.freeze, List.foldl_nil, List.foldl_cons, subOs, subEv, subV_succ, subM, ldCells, objAt, sliceS, ↓callT, callC, callV, callH, normArgs, normA, normC, resL, res8_eq, res_succ, resM, shiftR, shift1, AV.cells, TK.cells, AV.definite, AV.pureLeaf, AV.pureB, lay, buildL, frzAt, List.getElem?_toArray, List.getElem?_cons_succ, List.getElem?_cons_zero, Option.bind_some, Option.map_some, Option.map_none, Option.getD_some, reduceCtorEq, Nat.reduceEqDiff, Nat.reduceAdd, List.nil_append, List.append_nil, List.cons_append, List.length_cons, List.length_nil, List.map_cons, List.map_nil, List.set_cons_zero, List.set_cons_succ, Nat.zero_add, ite_true, ite_false, Option.some.injEq, Option.isSome_some, AV.agg.injEq, Prod.mk.injEq, List.all_cons, List.all_nil, Bool.and_self, and_self, exists_eq_left', pickOK_nil, List.length_append, rg1, cStr_dec, cSl_dec, lOne_dec, lCons_dec, dec2_some, List.contains_nil, beq_self_eq_true, decL_nil, decL_cons, consO_some, List.range'_zero, Nat.reducePow, C1by_ns, C1by_pre, C1by_r, C1by_H, optP_some, optV_some, optH_some, List.getD_cons_zero, cutL, List.drop_zero, List.drop_succ_cons, List.take_succ_cons, List.take_zero, Nat.sub_zero, Nat.reduceLeDiff, Nat.le_refl, Nat.mul_one, List.drop_nil, List.take_nil, Nat.zero_lt_succ, tk9, eb9, tk22, tk27, tz27, dz27, eq27, tk35, dz35, kPKnown, kLight, kPDo, kStrings, aPos, aCh, hcf, w7, w8, hone]
        exact ⟨by omega, by rw [List.length_take]; omega, by omega, by rw [List.length_take, List.length_drop]; omega, by simp only [Bool.true_and, beq_iff_eq]; omega⟩
end Go.Pg
namespace Go.Pg
open Go Go.Proofs

theorem zeros_any (n : Nat) : ([List.replicate n 0] : Ls).any has10 = false := by
  simp only [List.any_cons, List.any_nil, Bool.or_false]
  unfold has10
  rw [List.any_eq_false]
  intro b hb h
  have := List.eq_of_mem_replicate hb
  subst this
  cases h

theorem may_zeros (n : Nat) (k : Int) (h1 : 1 ≤ k) (h2 : k ≤ 40) : mayR (0, [List.replicate n 0]) k = decide (k * (n + 1) ≤ 4096) := by
  have hsz : size [List.replicate n (0 : UInt8)] = n + 1 := by rw [size_one, List.length_replicate]
  unfold mayR
  rw [zeros_any, decide_eq_true h1, decide_eq_true (show k ≤ 9999 by omega), hsz]
  have e : decide ((n : Int) + 1 ≤ 4096 / k) = decide (k * (n + 1) ≤ 4096) := by
    rw [decide_eq_decide, Int.le_ediv_iff_mul_le (by omega), Int.mul_comm]
  rw [e]
  simp

set_option maxRecDepth 20000 in
set_option maxHeartbeats 4000000 in
theorem calls_PutLimits (z n l : Int) (hz : 0 ≤ z ∧ z < 65536) (hn : 0 ≤ n ∧ n < 256) (hl : -128 ≤ l ∧ l < 128) :
    CallsR Try.prog 7 [.int .u16 z, .int .u8 n, .int .i8 l] [] (.bool true) [] := by
  have w1 : IntKind.i64.wrap z = z := wrap64 (by omega) (by omega)
  have m1 : n.tmod 40 = n % 40 := Int.tmod_eq_emod_of_nonneg hn.1
  have w2 : IntKind.u8.wrap (n % 40) = n % 40 := by rw [IntKind.wrap_u8]; omega
  have w3 : IntKind.i64.wrap (n % 40) = n % 40 := wrap64 (by omega) (by omega)
  have w4 : IntKind.i64.wrap (n % 40 + 1) = n % 40 + 1 := wrap64 (by omega) (by omega)
  have k1 : 1 ≤ n % 40 + 1 ∧ n % 40 + 1 ≤ 40 := by omega
  generalize n % 40 = k0 at w2 w3 w4 k1 m1
  have hlm : -1 ≤ l.tmod 2 ∧ l.tmod 2 ≤ 1 := by
    have h1 := Int.tmod_eq_emod (a := l) (b := 2)
    split at h1
    · omega
    · have : ((2 : Int).natAbs : Int) = 2 := rfl
      omega
  generalize hlt : l.tmod 2 = l2 at hlm
  have w5 : IntKind.i8.wrap l2 = l2 := by
    have e : l2 = -1 ∨ l2 = 0 ∨ l2 = 1 := by omega
    rcases e with rfl | rfl | rfl <;> rfl
  have w6 : IntKind.i64.wrap l2 = l2 := wrap64 (by omega) (by omega)
  have hq : Int.tdiv 4096 (k0 + 1) = 4096 / (k0 + 1) := Int.tdiv_eq_ediv_of_nonneg (by decide)
  have hq1 : 0 ≤ 4096 / (k0 + 1) := Int.ediv_nonneg (by decide) (by omega)
  have hq2 : 4096 / (k0 + 1) ≤ 4096 := Int.ediv_le_self _ (by decide)
  have w7 : IntKind.i64.wrap (4096 / (k0 + 1)) = 4096 / (k0 + 1) := wrap64 (by omega) (by omega)
  have w8 : IntKind.i64.wrap (4096 / (k0 + 1) - 1) = 4096 / (k0 + 1) - 1 := wrap64 (by omega) (by omega)
  have w9 : IntKind.i64.wrap (4096 / (k0 + 1) - 1 + l2) = 4096 / (k0 + 1) - 1 + l2 := wrap64 (by omega) (by omega)
  generalize hs : 4096 / (k0 + 1) - 1 + l2 = s at w9
  have hs2 : s ≤ 4096 := by omega
  refine callsR_of (mrg := false) (dyn := []) (CtrOK.cons ok_pknown (CtrOK.cons ok_PDo (CtrOK.nil _))) mixed Try.func7 rfl (by simp [Try.ntmps7]) (by kernel_rfl) ?_
  rw [show Try.f7.results.toList = [.tmp 6] from by kernel_rfl]
  by_cases h0 : s < 0
  · have d0 : decide (s < 0) = true := decide_eq_true h0
    simp (maxSteps := 4000000) only [↓wpA_H, ↓wpH_skip, ↓wpH_ret, ↓wpH_seq, ↓wpH_cond, ↓wpH_region, ↓iselH_true, ↓iselH_false, bselH_false, runH_nil, runH_cons, gw, gselH_plain, cselH_bool, ↓chk, justK, ↓oneK, ↓pureK, envOf, ↓thenA_normal, ↓thenA_ret, ↓stepEv, opnd, Pg.look, binK, intOp, Bool.not_true, Bool.false_eq_true, false_implies, implies_true, true_and, and_true, valV, heapV, footV, binV, intV, ofV, ofLeaf, retA, resK, tupA, subA, subQ, ptrsE, frzO, subF, subG, pickOf, frzE, frzC, frz0, frzH, Pg.freeze, List.foldl_nil, subOs, subEv, subV_succ, subM, ↓callT, callC, callV, callH, normArgs, resL, shiftR, shift1, reduceCtorEq, Nat.reduceEqDiff, Nat.reduceAdd, List.nil_append, List.append_nil, List.length_nil, List.map_nil, Nat.zero_add, ite_true, ite_false, Prod.mk.injEq, ne_eq, not_false_eq_true, and_self, pickOK_nil, lNil_dec, List.contains_nil, List.range'_zero, C1by_ns, C1by_pre, C1by_r, C1by_H, optP_some, optV_some, optH_some, tk3, tk5, tk52, kPKnown, kPDo, aPos, aCh, w3, w4, w6, w7, w8, w9, m1, hlt, hq, hs, d0]
    exact ⟨by decide, by omega, by decide⟩
  · have d0 : decide (s < 0) = false := decide_eq_false h0
    obtain ⟨t, rfl⟩ : ∃ t : Nat, s = t := ⟨s.toNat, by omega⟩
    have hmz := may_zeros t (k0 + 1) k1.1 k1.2
    have hS : ∀ (x : List UInt8), x.length ≤ 1048576 → small [x] := fun x hx => ⟨by show 1 ≤ _; omega, fun i => by
      match i with
      | 0 => show x.length ≤ _; omega
      | i + 1 => simp⟩
    have hF : few [List.replicate t (0 : UInt8)] := ⟨by show 1 ≤ _; omega, fun i => by
      match i with
      | 0 => show (List.replicate t (0 : UInt8)).length ≤ _; rw [List.length_replicate]; omega
      | i + 1 => simp⟩
    have hL : ∀ (i : Nat), (([[97, 98]] : Ls).getD i []).length ≤ 1099511627775 := fun i => by
      match i with
      | 0 => show 2 ≤ _; omega
      | i + 1 => simp
    have hp0 : 0 ≤ (k0 + 1) * ((t : Int) + 1) := Int.mul_nonneg (by omega) (by omega)
    have hp1 : (k0 + 1) * ((t : Int) + 1) ≤ 40 * 4097 := Int.mul_le_mul (by omega) (by omega) (by omega) (by omega)
    have hp2 : (k0 + 1) * ((t : Int) + 1) = (k0 + 1) * t + (k0 + 1) := by rw [Int.mul_add, Int.mul_one]
    have x1 : IntKind.i64.wrap ((t : Int) + 1) = t + 1 := wrap64 (by omega) (by omega)
    have x2 : IntKind.i64.wrap ((k0 + 1) * ((t : Int) + 1)) = (k0 + 1) * (t + 1) := wrap64 (by omega) (by omega)
    have x3 : IntKind.i64.wrap ((k0 + 1) * (t : Int)) = (k0 + 1) * t := wrap64 (by omega) (by omega)
    have x4 : IntKind.i64.wrap (2 + (k0 + 1) * (t : Int)) = 2 + (k0 + 1) * t := wrap64 (by omega) (by omega)
    cases hm : mayR (0, [List.replicate t 0]) (k0 + 1) with
    | false =>
      have hp : putF [[97, 98]] (0, 0) (0, [List.replicate t 0]) false (k0 + 1) = ((0, [], []), (0, 0), false) := by
        unfold putF
        rw [if_neg (by simp [hm])]
      simp (maxSteps := 4000000) only [↓wpA_H, ↓wpH_skip, ↓wpH_ret, ↓wpH_seq, ↓wpH_cond, ↓wpH_region, ↓iselH_true, ↓iselH_false, iselH_if, bselH_false, runH_nil, runH_cons, ↓fixG, setG, gw, gselH_plain, gselH_if, kselH_0, kselH_2, cselH_bool, gkind, ↓chk, pickO, justK, noW, ↓oneK, ↓pureK, ↓heapK, envOf, ↓thenA_normal, ↓stepEv, opnd, Pg.look, binK, intOp, dstOf, Bool.and_true, Bool.not_false, Bool.not_true, Bool.false_eq_true, Bool.true_eq_false, false_implies, implies_true, imp_self, true_and, and_true, pickC, pickV, unc, gof, mux, valV, heapV, footV, binV, intV, mergeable, ofV, ofLeaf, retA, resK, tupA, subA, subQ, ptrsE, frzO, subF, subG, pickOf, frzE, frzC, frz0, frzH, Pg.freeze, List.foldl_nil, List.foldl_cons, subOs, subEv, subV_succ, subM, srcV, srcL, objAt, ↓callT, callC, callV, callH, normArgs, normA, normC, normL, resL, res8_eq, res_succ, resM, shiftR, shift1, AV.cells, TK.cells, AV.definite, AV.leaf, AV.leafy, AV.pureLeaf, AV.pureB, putCells, lay, buildL, frzAt, List.getElem?_toArray, List.getElem?_cons_succ, List.getElem?_cons_zero, Option.bind_some, Option.getD_some, reduceCtorEq, Nat.reduceEqDiff, Nat.reduceAdd, List.nil_append, List.append_nil, List.cons_append, List.length_cons, List.length_nil, List.map_cons, List.map_nil, List.set_cons_zero, List.set_cons_succ, Nat.zero_add, ite_true, ite_false, Option.some.injEq, Option.isSome_some, AV.str.injEq, AV.agg.injEq, Prod.mk.injEq, decide_eq_true_eq, ne_eq, not_false_eq_true, List.all_cons, List.all_nil, Bool.and_self, and_self, exists_eq_left', pickOK_nil, cInt_dec, cBool_dec, rg1, length_ofBytes, bytesOf_ofBytes, cStr_dec, cSl_dec, cAgg_dec, lNil_dec, lOne_dec, lCons_dec, dec2_some, List.contains_nil, beq_self_eq_true, decL_nil, decL_cons, consO_some, Int.cast_ofNat_Int, List.range'_zero, Nat.reducePow, C1by_ns, C1by_pre, C1by_r, C1by_H, optP_some, optV_some, optH_some, Int.toNat_natCast, List.getD_cons_zero, List.drop_succ_cons, List.take_succ_cons, List.take_zero, Nat.reduceLeDiff, Nat.le_refl, Nat.mul_one, List.drop_nil, Nat.zero_lt_succ, tk3, tk4, tk5, tz5, eb5, tk9, eb9, tk22, tk23, tk27, tz27, dz27, tk32, tz32, tk35, tz35, dz35, tk52, tk53, kPKnown, kPDo, aPos, aCh, w1, w3, w4, w6, w7, w8, w9, m1, hlt, hq, hs, d0, hp, ofBytes_rep, List.length_replicate]
      rw [hm] at hmz
      rw [x1, x2, ← hmz]
      exact ⟨by decide, by omega, by decide, ⟨by omega, by omega⟩, ⟨hS _ (by show 2 ≤ _; omega), hL, hF, fun _ h => by rw [hm] at h; cases h⟩, fun _ => hz.1, fun h => by cases h⟩
    | true =>
      obtain ⟨p1, p2, p3⟩ := put_one [97, 98] (List.replicate t 0) 0 false (k0 + 1) (by omega) (by decide) hm
      simp (maxSteps := 4000000) only [↓wpA_H, ↓wpH_skip, ↓wpH_ret, ↓wpH_seq, ↓wpH_cond, ↓wpH_region, ↓iselH_true, ↓iselH_false, iselH_if, bselH_false, runH_nil, runH_cons, ↓fixG, setG, gw, gselH_plain, gselH_if, kselH_0, kselH_2, cselH_bool, gkind, ↓chk, pickO, justK, noW, ↓oneK, ↓pureK, ↓heapK, envOf, ↓thenA_normal, ↓stepEv, opnd, Pg.look, binK, intOp, dstOf, Bool.and_true, Bool.not_false, Bool.not_true, Bool.false_eq_true, Bool.true_eq_false, false_implies, implies_true, imp_self, true_and, and_true, pickC, pickV, unc, gof, mux, valV, heapV, footV, binV, intV, mergeable, ofV, ofLeaf, retA, resK, tupA, subA, subQ, ptrsE, frzO, subF, subG, pickOf, frzE, frzC, frz0, frzH, Pg.freeze, List.foldl_nil, List.foldl_cons, subOs, subEv, subV_succ, subM, slen, srcV, srcL, ldCells, objAt, ↓callT, callC, callV, callH, normArgs, normA, normC, normL, resL, res8_eq, res_succ, resM, shiftR, shift1, AV.cells, TK.cells, AV.definite, AV.leaf, AV.leafy, AV.pureLeaf, AV.pureB, putCells, lay, buildL, frzAt, List.getElem?_toArray, List.getElem?_cons_succ, List.getElem?_cons_zero, Option.bind_some, Option.getD_some, reduceCtorEq, Nat.reduceEqDiff, Nat.reduceAdd, List.nil_append, List.append_nil, List.cons_append, List.length_cons, List.length_nil, List.map_cons, List.map_nil, List.set_cons_zero, List.set_cons_succ, Nat.zero_add, Int.reduceToNat, ite_true, ite_false, Option.some.injEq, Option.isSome_some, AV.int.injEq, AV.str.injEq, AV.agg.injEq, Prod.mk.injEq, decide_eq_true_eq, ne_eq, not_false_eq_true, List.all_cons, List.all_nil, Bool.and_self, and_self, exists_eq_left', pickOK_nil, cInt_dec, cBool_dec, rg1, length_ofBytes, Int.reduceLE, bytesOf_ofBytes, cStr_dec, cSl_dec, cAgg_dec, lNil_dec, lOne_dec, lCons_dec, dec2_some, List.contains_nil, beq_self_eq_true, decL_nil, decL_cons, consO_some, Int.cast_ofNat_Int, List.range'_zero, Nat.reducePow, C1by_ns, C1by_pre, C1by_r, C1by_H, optP_some, optV_some, optH_some, Int.toNat_natCast, List.getD_cons_zero, List.drop_succ_cons, List.take_succ_cons, List.take_zero, Nat.reduceLeDiff, Nat.le_refl, Nat.mul_one, List.drop_nil, Nat.zero_lt_succ, tk3, tk4, tk5, tz5, eb5, tk9, dz9, eb9, tk22, tk23, tk27, tz27, dz27, tk32, tz32, tk35, tz35, dz35, tk52, tk53, kPKnown, kPDo, aPos, aCh, w1, w3, w4, w6, w7, w8, w9, m1, hlt, hq, hs, d0, p3, ofBytes_rep, List.length_replicate]
      rw [hm] at hmz
      have hlen := oneLine_length [97, 98] (List.replicate t 0) 0 false (k0 + 1)
      rw [List.length_replicate] at hlen
      have hlen2 : ((oneLine [97, 98] (List.replicate t 0) 0 false (k0 + 1)).length : Int) = 2 + (k0 + 1) * t := by
        rw [hlen]
        show (((2 + (k0 + 1).toNat * t : Nat)) : Int) = _
        rw [Int.natCast_add, Int.natCast_mul, Int.toNat_of_nonneg (by omega)]
        rfl
      rw [x1, x2, x3, x4, ← hmz, hlen2]
      refine ⟨by decide, by omega, by decide, ⟨by omega, by omega⟩, ⟨hS _ (by show 2 ≤ _; omega), hL, hF, fun _ _ _ => ?_⟩, fun _ => ⟨fun _ => hz.1, fun h => by simp at h⟩, fun h => by cases h⟩
      rw [p1]
      refine ⟨?_, by show 1 ≤ _; omega, by show 1 ≤ _; omega⟩
      simp only [p2]
      exact hS _ (by omega)
end Go.Pg
