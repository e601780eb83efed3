/- A block that is put stands side by side in as many lines, whatever their length, and lines that lack are made. -/
import Derived.Test.YtombifgcpghkgaaPgFx10
namespace Go.Pg
open Go Go.Proofs

def blockCol (ls : Ls) (p : Int × Int) (before : Bool) : Int := if (!before && decide (0 < (ls.getD p.1.toNat []).length)) = true then p.2 + 1 else p.2
/-- The line that is there, or none. -/
def wasLine (ls : Ls) (l : Int) : List UInt8 := if l < ls.length then ls.getD l.toNat [] else []

theorem put_block (ls L : Ls) (p : Int × Int) (before : Bool) (hf : fits 40 1200 ls) (hL : fits 8 1200 L) (hp : place ls p.1 p.2 = true) (hm : mayR (2, L) 1 = true) :
    ∃ O N now : Ls, atR ls p (2, L) before 1 = ((p.1, O, N), (p.1, blockCol ls p before), true) ∧ apply1 ls (p.1, O, N) = (now, true) ∧ putF ls p (2, L) before 1 = ((p.1, O, N), clampP now (p.1, blockCol ls p before) false, true) ∧
      O.length ≤ 40 ∧ N.length ≤ 40 ∧ fits 100 4000 now ∧ (now.length : Int) = max (ls.length : Int) (p.1 + L.length) ∧ 0 ≤ blockCol ls p before ∧ blockCol ls p before ≤ 1201 ∧
      ∀ i : Nat, i < L.length → now.getD (p.1 + i).toNat [] = (wide (wasLine ls (p.1 + i)) (blockCol ls p before)).take (blockCol ls p before).toNat ++ L.getD i [] ++ (wide (wasLine ls (p.1 + i)) (blockCol ls p before)).drop (blockCol ls p before).toNat := by
  obtain ⟨_, l0, _, _⟩ := fine_may hm
  simp only at l0
  have hp' := hp
  rw [place_iff] at hp'
  obtain ⟨v1, v2, v3, v4⟩ := hp'
  have f1 := fits_getD hf p.1.toNat
  have hl := hf.1
  have hl8 := hL.1
  have hc : 0 ≤ blockCol ls p before ∧ blockCol ls p before ≤ 1201 := by
    unfold blockCol
    split <;> omega
  have ep : (if (!before && decide (0 < (ls.getD p.1.toNat []).length)) = true then (p.1, p.2 + 1) else p) = (p.1, blockCol ls p before) := by
    unfold blockCol
    cases (!before && decide (0 < (ls.getD p.1.toNat []).length)) <;> rfl
  have ea : atR ls p (2, L) before 1 = blockR ls (p.1, blockCol ls p before) (2, L) 1 := by
    unfold atR
    rw [if_neg (show ¬ ((2 : Int) == 0) = true by decide), if_neg (show ¬ ((2 : Int) == 1) = true by decide), if_pos (show ((2 : Int) == 2) = true by decide), ep]
  generalize blockCol ls p before = c at hc ea
  have eb : blockR ls (p.1, c) (2, L) 1 = ((p.1, cutL ls p.1.toNat (min (p.1 + L.length) ls.length).toNat, blockL ls (p.1, c) L 1 L.length), (p.1, c), true) := rfl
  have nN : (blockL ls (p.1, c) L 1 L.length).length = L.length := by unfold blockL; rw [List.length_map, List.length_range]
  have hbl : ∀ i : Nat, i < L.length → blockLine ls (p.1, c) L 1 i = (wide (wasLine ls (p.1 + i)) c).take c.toNat ++ L.getD i [] ++ (wide (wasLine ls (p.1 + i)) c).drop c.toNat := fun i hi => by
    have e1 : (if p.1 + (i : Int) < min (p.1 + (L.length : Int)) ls.length then ls.getD (p.1 + (i : Int)).toNat [] else []) = wasLine ls (p.1 + i) := by
      unfold wasLine
      by_cases h : p.1 + (i : Int) < ls.length
      · rw [if_pos (by omega), if_pos h]
      · rw [if_neg (by omega), if_neg h]
    have e0 : blockLine ls (p.1, c) L 1 i = (wide (if p.1 + (i : Int) < min (p.1 + (L.length : Int)) ls.length then ls.getD (p.1 + (i : Int)).toNat [] else []) c).take c.toNat ++ [] ++ L.getD i [] ++ (wide (if p.1 + (i : Int) < min (p.1 + (L.length : Int)) ls.length then ls.getD (p.1 + (i : Int)).toNat [] else []) c).drop c.toNat := rfl
    rw [e0, e1, List.append_nil]
  have ap := apply1_cut ls p.1 (min (p.1 + L.length) ls.length - 1) (blockL ls (p.1, c) L 1 L.length) v1 (by omega) (by omega) (.inl (by omega))
  rw [show min (p.1 + (L.length : Int)) ls.length - 1 + 1 = min (p.1 + (L.length : Int)) ls.length by omega] at ap
  have lA : (ls.take p.1.toNat).length = p.1.toNat := by rw [List.length_take]; omega
  refine ⟨_, _, _, ea.trans eb, ap, ?_, ?_, by omega, ?_, ?_, hc.1, hc.2, fun i hi => ?_⟩
  · unfold putF
    rw [if_pos (by simp only [hp, hm, ea, eb]; rfl), ea, eb]
    simp only [ap]
  · unfold cutL
    rw [List.length_take, List.length_drop]; omega
  · refine ⟨by simp only [List.length_append, List.length_take, List.length_drop, nN]; omega, fun s hs => ?_⟩
    simp only [List.mem_append] at hs
    rcases hs with (hs | hs) | hs
    · have := hf.2 s (List.mem_of_mem_take hs); omega
    · unfold blockL at hs
      obtain ⟨i, hi, rfl⟩ := List.mem_map.1 hs
      rw [hbl i (List.mem_range.1 hi)]
      have h1 := fits_getD hL i
      have h2 : (wasLine ls (p.1 + i)).length ≤ 1200 := by
        unfold wasLine
        split
        · exact fits_getD hf _
        · simp
      have h3 := wide_length (wasLine ls (p.1 + i)) c
      simp only [List.length_append, List.length_take, List.length_drop]
      omega
    · have := hf.2 s (List.mem_of_mem_drop hs); omega
  · simp only [List.length_append, List.length_take, List.length_drop, nN]; omega
  · rw [← hbl i hi, List.getD_eq_getElem?_getD, List.append_assoc, List.getElem?_append_right (by omega), lA, List.getElem?_append_left (by omega), show (p.1 + (i : Int)).toNat - p.1.toNat = i by omega]
    unfold blockL
    rw [List.getElem?_map, List.getElem?_range hi]; rfl

theorem wide_step (w : List UInt8) (c : Int) (j : Nat) (h : (w.length : Int) + j ≥ c) (hj : j = 0 ∨ (w.length : Int) + j ≤ c) : w ++ List.replicate j 32 = wide w c := by
  unfold wide
  congr 2
  omega

set_option maxRecDepth 20000 in
set_option maxHeartbeats 4000000 in
theorem calls_PutBlocks (ls L : Ls) (a b : Int) (before : Bool) (hs : ∀ i, (ls.getD i []).length ≤ 140737488355328) (hsL : ∀ i, (L.getD i []).length ≤ 140737488355328) (ha : 0 ≤ a ∧ a < 65536) (hb : 0 ≤ b ∧ b < 65536) :
    CallsR Try.prog 9 [.sl 1 (ls.map .str), .sl 1 (L.map .str), .int .u16 a, .int .u16 b, .bool before] [] (.bool true) [] := by
  refine callsR_of (mrg := false) (dyn := []) (CtrOK.cons ok_pknown (CtrOK.cons ok_Text (CtrOK.cons ok_SPlace (CtrOK.cons ok_PDo (CtrOK.cons ok_Apply (CtrOK.cons ok_PRClamp (CtrOK.nil _))))))) mixed Try.func9 rfl (by simp [Try.ntmps9]) (by kernel_rfl) ?_
  rw [show Try.f9.results.toList = [.tmp 10] from by kernel_rfl]
  cases ht : Pg.text ls with
  | false =>
    simp (maxSteps := 4000000) only [↓wpA_H, ↓wpH_skip, ↓wpH_ret, ↓wpH_seq, ↓wpH_cond, ↓wpH_region, ↓iselH_true, ↓iselH_false, bselH_false, runH_nil, runH_cons, ↓fixG, setG, gw, gselH_plain, gselH_if, kselH_2, cselH_bool, gkind, ↓chk, justK, ↓oneK, ↓pureK, envOf, ↓thenA_normal, ↓thenA_ret, ↓stepEv, opnd, Pg.look, dstOf, Bool.and_true, Bool.not_false, Bool.not_true, Bool.false_eq_true, Bool.true_eq_false, false_implies, implies_true, imp_self, true_and, and_true, pickC, pickV, unc, gof, mux, valV, heapV, footV, mergeable, ofV, ofLeaf, retA, resK, tupA, subA, subQ, ptrsE, frzO, subF, subG, pickOf, frzE, frzC, frz0, frzH, Pg.freeze, List.foldl_nil, subOs, subEv, subV_succ, subM, ↓callT, callC, callV, callH, normArgs, normA, normC, resL, res8_eq, res_succ, resM, shiftR, shift1, List.getElem?_toArray, List.getElem?_cons_succ, List.getElem?_cons_zero, Option.bind_some, reduceCtorEq, Nat.reduceEqDiff, Nat.reduceAdd, List.nil_append, List.append_nil, List.length_nil, List.map_cons, List.map_nil, Nat.zero_add, ite_true, ite_false, Prod.mk.injEq, and_self, pickOK_nil, cSl_dec, lNil_dec, lOne_dec, List.contains_nil, List.range'_zero, decL_str, C1by_ns, C1by_pre, C1by_r, C1by_H, optP_some, optV_some, optH_some, kPKnown, kText, ht]
    exact hs
  | true =>
  cases ht2 : Pg.text L with
  | false =>
    simp (maxSteps := 4000000) only [↓wpA_H, ↓wpH_skip, ↓wpH_ret, ↓wpH_seq, ↓wpH_cond, ↓wpH_region, ↓iselH_true, ↓iselH_false, bselH_false, runH_nil, runH_cons, ↓fixG, setG, gw, gselH_plain, gselH_if, kselH_2, cselH_bool, gkind, ↓chk, justK, ↓oneK, ↓pureK, envOf, ↓thenA_normal, ↓thenA_ret, ↓stepEv, opnd, Pg.look, dstOf, Bool.and_true, Bool.not_false, Bool.not_true, Bool.false_eq_true, Bool.true_eq_false, false_implies, implies_true, imp_self, true_and, and_true, pickC, pickV, unc, gof, mux, valV, heapV, footV, mergeable, ofV, ofLeaf, retA, resK, tupA, subA, subQ, ptrsE, frzO, subF, subG, pickOf, frzE, frzC, frz0, frzH, Pg.freeze, List.foldl_nil, subOs, subEv, subV_succ, subM, ↓callT, callC, callV, callH, normArgs, normA, normC, resL, res8_eq, res_succ, resM, shiftR, shift1, List.getElem?_toArray, List.getElem?_cons_succ, List.getElem?_cons_zero, Option.bind_some, reduceCtorEq, Nat.reduceEqDiff, Nat.reduceAdd, List.nil_append, List.append_nil, List.length_nil, List.map_cons, List.map_nil, Nat.zero_add, ite_true, ite_false, Prod.mk.injEq, and_self, pickOK_nil, cSl_dec, lNil_dec, lOne_dec, List.contains_nil, List.range'_zero, decL_str, C1by_ns, C1by_pre, C1by_r, C1by_H, optP_some, optV_some, optH_some, kPKnown, kText, ht, ht2]
    exact ⟨hs, hsL⟩
  | true =>
  by_cases h8 : L.length ≤ 8
  case neg =>
    have d8 : decide ((L.length : Int) > 8) = true := decide_eq_true (by omega)
    simp (maxSteps := 4000000) only [↓wpA_H, ↓wpH_skip, ↓wpH_ret, ↓wpH_seq, ↓wpH_cond, ↓wpH_region, ↓iselH_true, ↓iselH_false, bselH_false, runH_nil, runH_cons, ↓fixG, setG, gw, gselH_plain, gselH_if, kselH_2, cselH_bool, gkind, ↓chk, justK, ↓oneK, ↓pureK, envOf, ↓thenA_normal, ↓thenA_ret, ↓stepEv, opnd, Pg.look, binK, intOp, dstOf, Bool.and_true, Bool.not_false, Bool.not_true, Bool.false_eq_true, false_implies, implies_true, imp_self, true_and, and_true, pickC, pickV, unc, gof, mux, valV, heapV, footV, binV, intV, mergeable, ofV, ofLeaf, retA, resK, tupA, subA, subQ, ptrsE, frzO, subF, subG, pickOf, frzE, frzC, frz0, frzH, Pg.freeze, List.foldl_nil, subOs, subEv, subV_succ, subM, slen, ↓callT, callC, callV, callH, normArgs, normA, normC, resL, res8_eq, res_succ, resM, shiftR, shift1, List.getElem?_toArray, List.getElem?_cons_succ, List.getElem?_cons_zero, Option.bind_some, Option.getD_some, reduceCtorEq, Nat.reduceEqDiff, Nat.reduceAdd, List.nil_append, List.append_nil, List.length_nil, List.map_cons, List.map_nil, Nat.zero_add, ite_true, ite_false, Option.some.injEq, AV.int.injEq, Prod.mk.injEq, and_self, exists_eq_left', pickOK_nil, List.length_map, cSl_dec, lNil_dec, lOne_dec, List.contains_nil, List.range'_zero, decL_str, C1by_ns, C1by_pre, C1by_r, C1by_H, optP_some, optV_some, optH_some, tk22, kPKnown, kText, ht, ht2, d8]
    exact ⟨hs, hsL⟩
  have d8 : decide ((L.length : Int) > 8) = false := decide_eq_false (by omega)
  have hft := fits_text ht
  have hfL := fits_text ht2
  obtain ⟨hl0, hl1, hl2⟩ := few_of_text ht
  obtain ⟨kl0, kl1, kl2⟩ := few_of_text ht2
  have hsm : small ls := fits_small hft (by omega) (by omega)
  have hp := splace_place ls a b hl0 hb.1
  generalize hq : splace ls a b = p at hp
  have hm : mayR (2, L) 1 = true := may_light ht2 (by omega) (by omega)
  obtain ⟨O, N, now, q1, q2, q3, q4, q5, q6, q7, q8, q9, q10⟩ := put_block ls L p before hft ⟨h8, hfL.2⟩ hp hm
  obtain ⟨p1, p2⟩ := p
  have hp' := hp
  rw [place_iff] at hp'
  simp only at hp' hp q1 q2 q3 q7 q10
  obtain ⟨v1, v2, v3, v4⟩ := hp'
  have hcol : blockCol ls (p1, p2) before = if (!before && decide (0 < (ls.getD p1.toNat []).length)) = true then p2 + 1 else p2 := rfl
  have hf1 := hl2 p1.toNat
  have ap1 : applyL ls [(p1, O, N)] = (now, true) := by rw [applyL1, q2]; rfl
  have m1 : ∀ x : Ch, x ∈ [(p1, O, N)] → x.2.1.length ≤ 1048576 ∧ x.2.2.length ≤ 1048576 := fun x hx => by
    obtain rfl := List.mem_singleton.1 hx
    exact ⟨by show O.length ≤ _; omega, by show N.length ≤ _; omega⟩
  have smn : small now := fits_small q6 (by omega) (by omega)
  have fL : few L := ⟨by omega, fun i => by have := kl2 i; omega⟩
  have lls : ∀ i, (ls.getD i []).length ≤ 1099511627775 := fun i => by have := hl2 i; omega
  have hpre : place ls p1 p2 = true → mayR (2, L) 1 = true → (atR ls (p1, p2) (2, L) before 1).2.2 = true →
      small (apply1 ls (atR ls (p1, p2) (2, L) before 1).1).1 ∧ (atR ls (p1, p2) (2, L) before 1).1.2.1.length ≤ 1099511627 ∧ (atR ls (p1, p2) (2, L) before 1).1.2.2.length ≤ 1099511627 := fun _ _ _ => by
    rw [q1]
    simp only [q2]
    exact ⟨smn, by show O.length ≤ _; omega, by show N.length ≤ _; omega⟩
  have w1 : IntKind.i64.wrap (p1 + (L.length : Int)) = p1 + L.length := wrap64 (by omega) (by omega)
  have w2 : IntKind.i64.wrap (p2 + 1) = p2 + 1 := wrap64 (by omega) (by omega)
  have hne : ((now.length : Int) != max (ls.length : Int) (p1 + L.length)) = false := by simp [q7]
  have hnl := q6.1
  have hnf := fits_getD q6
  generalize blockCol ls (p1, p2) before = c at q1 q3 q8 q9 q10 hcol
  obtain ⟨y, hY⟩ : ∃ y, clampP now (p1, c) false = y := ⟨_, rfl⟩
  rw [hY] at q3
  obtain ⟨y1, y2⟩ := y
  cases before with
  | true =>
    have hcol : c = p2 := hcol
    rw [hcol] at q8 q9 q10
    have q11 : clampP now (p1, p2) false = (y1, y2) := hcol ▸ hY
    simp (maxSteps := 4000000) only [↓wpA_H, ↓wpH_skip, ↓wpH_seq, ↓wpH_cond, ↓wpH_block, ↓wpH_loop, ↓wpH_region, ↓iselH_true, ↓iselH_false, bselH_false, runH_nil, runH_cons, ↓fixG, setG, gw, gselH_plain, gselH_if, kselH_2, cselH_bool, gkind, ↓chk, justK, noW, ↓oneK, ↓pureK, ↓heapK, envOf, ↓thenA_normal, ↓stepEv, opnd, Pg.look, binK, intOp, dstOf, Bool.and_true, Bool.not_false, Bool.not_true, Bool.false_eq_true, false_implies, implies_true, true_and, and_true, pickC, pickV, unc, gof, mux, valV, heapV, footV, binV, intV, mergeable, ofV, ofLeaf, Pg.freeze, List.foldl_nil, List.foldl_cons, slen, ldCells, objAt, ↓callT, callC, callV, callH, normArgs, normA, normC, normL, normE, resL, res8_eq, res_succ, resM, shiftR, shift1, AV.cells, TK.cells, AV.definite, AV.leaf, AV.leafy, AV.pureLeaf, AV.pureB, putCells, lay, buildL, foldInts, frzAt, List.getElem?_toArray, List.getElem?_cons_succ, List.getElem?_cons_zero, Option.bind_some, Option.getD_some, reduceCtorEq, Nat.reduceEqDiff, Nat.reduceAdd, List.nil_append, List.append_nil, List.cons_append, List.length_cons, List.length_nil, List.map_cons, List.map_nil, List.set_cons_zero, List.set_cons_succ, Nat.zero_add, ite_true, ite_false, Option.some.injEq, Option.isSome_some, AV.int.injEq, AV.agg.injEq, Prod.mk.injEq, List.all_cons, List.all_nil, Bool.and_self, and_self, exists_eq_left', List.length_map, cInt_dec, cBool_dec, rg1, cSl_dec, cAgg_dec, lNil_dec, lOne_dec, lCons_dec, dec2_some, List.contains_nil, beq_self_eq_true, decL_nil, decL_cons, consO_some, List.range'_zero, Nat.reducePow, decL_str, C1by_ns, C1by_pre, C1by_r, C1by_H, optP_some, optV_some, optH_some, List.getD_cons_zero, cutL, List.drop_zero, List.drop_succ_cons, List.take_succ_cons, List.take_zero, Nat.add_zero, Nat.sub_zero, Nat.reduceLeDiff, Nat.le_refl, Nat.one_mul, List.drop_nil, List.take_nil, Nat.zero_lt_succ, tk3, tk22, tk27, tz27, dz27, tk32, tz32, tk35, tz35, dz35, eb35, tk40, kPKnown, kText, kSPlace, kPDo, kApply, kPClamp, aPos, aCh, ht, ht2, d8, hq, q3, ap1, w1, hne]
    refine ⟨hs, hsL, ⟨hl0, hsm, ha, hb⟩, ⟨hsm, by omega, lls, fL, hpre⟩, ⟨by omega, m1⟩, ?_⟩
    refine loopH_intro (α := Nat) (fun i => ([(0, .sl 1 (ls.map .str)), (1, .sl 1 (L.map .str)), (11, .ptr 0 2 1 0 0), (13, .ptr 1 2 1 0 0), (15, .sl 1 (now.map .str)), (17, .int .i64 (p2)), (18, .int .i64 i)], [.arr 27 2 [.agg [.int .i64 p1, .int .i64 p2]], .arr 27 2 [.agg [.int .i64 y1, .int .i64 y2]]])) (fun i => i ≤ L.length) (fun i => L.length - i) 0 (by omega) ?_ ?_
    · simp (maxSteps := 4000000) only [Pg.look, true_and, and_true, subA, subQ, ptrsE, pairsO, frzO, subF, subG, pickOf, assocN, pairsE, pairsC, pairsL, pairs0, frzE, frzC, frzL, frz0, frzH, Pg.freeze, List.foldl_nil, subOs, subO, subEv, subV_succ, subM, List.getElem?_cons_succ, List.getElem?_cons_zero, reduceCtorEq, Nat.reduceEqDiff, List.nil_append, List.append_nil, List.cons_append, Nat.zero_add, ite_true, ite_false, and_self, Int.cast_ofNat_Int, Nat.lt_irrefl, Nat.not_lt_zero]
      exact ⟨rfl, subX_eq rfl rfl, subX_eq rfl rfl⟩
    intro i hi
    by_cases hlt : i < L.length
    · have hct : decide ((i : Int) < (L.length : Int)) = true := decide_eq_true (by omega)
      have w3 : IntKind.i64.wrap (p1 + (i : Int)) = p1 + i := wrap64 (by omega) (by omega)
      have hgi := q10 i hlt
      have hki := kl2 i
      have hni := hnf (p1 + (i : Int)).toNat
      have hwas : wasLine ls (p1 + i) = if p1 + (i : Int) < ls.length then ls.getD (p1 + (i : Int)).toNat [] else [] := rfl
      have hwl : (wasLine ls (p1 + i)).length ≤ 1200 := by
        rw [hwas]
        split
        · exact hl2 _
        · simp
      have hww := wide_length (wasLine ls (p1 + i)) (p2)
      cases hA2 : decide (p1 + (i : Int) < (ls.length : Int)) with
      | true =>
        have hA := of_decide_eq_true hA2
        rw [if_pos hA] at hwas
        simp (maxSteps := 4000000) only [↓wpA_H, ↓wpH_skip, ↓wpH_seq, ↓wpH_cond, ↓wpH_block, ↓wpH_loop, ↓wpH_region, ↓iselH_true, bselH_false, runH_nil, runH_cons, gw, gselH_plain, cselH_bool, ↓chk, justK, noW, ↓oneK, ↓pureK, ↓heapK, ↓thenA_normal, ↓stepEv, opnd, Pg.look, binK, intOp, Bool.false_eq_true, implies_true, true_and, and_true, valV, heapV, footV, binV, intV, ofV, ofLeaf, slen, ldCells, objAt, AV.cells, TK.cells, List.getElem?_cons_zero, Option.getD_some, reduceCtorEq, Nat.reduceEqDiff, List.length_cons, List.length_nil, Nat.zero_add, ite_true, ite_false, Option.some.injEq, AV.int.injEq, and_self, exists_eq_left', List.length_map, List.contains_nil, getD_str, List.getD_cons_zero, Nat.add_zero, Nat.zero_lt_succ, tk3, tk9, dz9, tk22, tk27, dz27, kPKnown, kText, kSPlace, kPDo, kApply, kPClamp, aPos, aCh, hct, w3, hA2]
        refine ⟨⟨by omega, by omega⟩, ?_⟩
        refine loopH_intro (α := Nat) (fun j => ([(0, .sl 1 (ls.map .str)), (1, .sl 1 (L.map .str)), (11, .ptr 0 2 1 0 0), (13, .ptr 1 2 1 0 0), (15, .sl 1 (now.map .str)), (17, .int .i64 (p2)), (18, .int .i64 i), (19, .str (wasLine ls (p1 + i) ++ List.replicate j 32))], [.arr 27 2 [.agg [.int .i64 p1, .int .i64 p2]], .arr 27 2 [.agg [.int .i64 y1, .int .i64 y2]]])) (fun j => j = 0 ∨ ((wasLine ls (p1 + i)).length : Int) + j ≤ p2) (fun j => (p2 - (wasLine ls (p1 + i)).length).toNat - j) 0 (by omega) ?_ ?_
        · simp (maxSteps := 4000000) only [Pg.look, true_and, and_true, subA, subQ, ptrsE, pairsO, frzO, subF, subG, pickOf, assocN, pairsE, pairsC, pairsL, pairs0, frzE, frzC, frzL, frz0, frzH, Pg.freeze, List.foldl_nil, subOs, subO, subEv, subV_succ, subM, List.getElem?_cons_succ, List.getElem?_cons_zero, reduceCtorEq, Nat.reduceEqDiff, List.nil_append, List.append_nil, List.cons_append, Nat.zero_add, ite_true, ite_false, and_self, Nat.lt_irrefl, Nat.not_lt_zero]
          exact ⟨rfl, ⟨subX_eq rfl rfl, subX_eq rfl rfl⟩, by rw [hwas]; exact (List.append_nil _).symm⟩
        intro j hj
        by_cases hlt2 : (((wasLine ls (p1 + i)).length + j : Nat) : Int) < p2
        · have hct2 : decide ((((wasLine ls (p1 + i)).length + j : Nat) : Int) < p2) = true := decide_eq_true hlt2
          simp (maxSteps := 4000000) only [↓wpA_H, ↓wpH_skip, ↓wpH_seq, ↓wpH_cond, ↓wpH_block, ↓wpH_region, ↓iselH_true, bselH_false, runH_nil, runH_cons, gw, gselH_plain, cselH_bool, ↓chk, justK, ↓oneK, ↓pureK, ↓thenA_normal, ↓blockA_normal, ↓stepEv, opnd, Pg.look, binK, intOp, strOp, Bool.false_eq_true, implies_true, true_and, and_true, valV, heapV, footV, binV, intV, strV, ofV, ofLeaf, subA, subQ, ptrsE, pairsO, frzO, subF, subG, pickOf, assocN, pairsE, pairsC, pairsL, pairs0, frzE, frzC, frzL, frz0, frzH, Pg.freeze, List.foldl_nil, subOs, subO, subEv, subV_succ, subM, List.getElem?_cons_succ, List.getElem?_cons_zero, reduceCtorEq, Nat.reduceEqDiff, List.nil_append, List.append_nil, List.cons_append, List.length_cons, List.length_nil, Nat.zero_add, ite_true, ite_false, and_self, List.length_append, List.contains_nil, Nat.reduceLeDiff, Nat.lt_irrefl, Nat.not_lt_zero, tk9, kPKnown, kText, kSPlace, kPDo, kApply, kPClamp, aPos, aCh, List.length_replicate, hct2]
          exact ⟨by omega, j + 1, by omega, by omega, rfl, ⟨subX_eq rfl rfl, subX_eq rfl rfl⟩, by rw [List.append_assoc, ← List.replicate_succ']⟩
        · have hws := wide_step (wasLine ls (p1 + i)) (p2) j (by omega) hj
          have hwl2 : (wasLine ls (p1 + i)).length + j = (wide (wasLine ls (p1 + i)) (p2)).length := by rw [← hws, List.length_append, List.length_replicate]
          have hcf2 : decide (((wide (wasLine ls (p1 + i)) (p2)).length : Int) < p2) = false := by rw [← hwl2]; exact decide_eq_false hlt2
          simp (maxSteps := 4000000) only [↓wpA_H, ↓wpH_skip, ↓wpH_ret, ↓wpH_exit, ↓wpH_seq, ↓wpH_cond, ↓wpH_region, ↓iselH_false, bselH_false, runH_nil, runH_cons, gw, gselH_plain, cselH_bool, ↓chk, justK, noW, ↓oneK, ↓pureK, ↓heapK, ↓thenA_normal, ↓thenA_exit, ↓blockA_normal, ↓blockA_exit, ↓stepEv, opnd, Pg.look, binK, intOp, strOp, cellsEq, leafEq, Bool.and_true, Bool.not_true, Bool.false_eq_true, false_implies, implies_true, true_and, and_true, valV, heapV, footV, binV, intV, strV, cutV, ofV, ofLeaf, retA, resK, tupA, subA, subQ, ptrsE, pairsO, frzO, subF, subG, pickOf, assocN, pairsE, pairsC, pairsL, pairs0, frzE, frzC, frzL, frz0, frzH, Pg.freeze, List.foldl_nil, subOs, subO, subEv, subV_succ, subM, ldCells, objAt, sliceS, ↓callT, callC, callV, callH, normArgs, normA, normC, resL, res8_eq, res_succ, resM, shiftR, shift1, AV.cells, TK.cells, AV.definite, lay, buildL, List.getElem?_cons_succ, List.getElem?_cons_zero, Option.map_some, Option.map_none, Option.getD_some, reduceCtorEq, Nat.reduceEqDiff, Nat.reduceAdd, List.nil_append, List.append_nil, List.cons_append, List.length_cons, List.length_nil, List.map_cons, List.map_nil, Nat.zero_add, ite_true, ite_false, Option.some.injEq, Option.isSome_some, AV.agg.injEq, Prod.mk.injEq, List.all_cons, List.all_nil, Bool.and_self, and_self, exists_eq_left', pickOK_nil, List.length_map, cInt_dec, cBool_dec, List.length_append, cSl_dec, cAgg_dec, lOne_dec, lCons_dec, dec2_some, List.contains_nil, beq_self_eq_true, List.range'_zero, decL_str, C1by_ns, C1by_pre, C1by_r, C1by_H, optP_some, optV_some, optH_some, getD_str, Int.toNat_natCast, List.getD_cons_zero, cutL, List.drop_zero, List.drop_succ_cons, List.take_succ_cons, List.take_zero, Nat.add_zero, Nat.sub_zero, Nat.reduceLeDiff, Nat.le_refl, Nat.lt_irrefl, List.drop_nil, List.take_nil, Nat.not_lt_zero, Nat.zero_lt_succ, tk3, tk9, dz9, tk22, tk27, tz27, dz27, eq27, kPKnown, kText, kSPlace, kPDo, kApply, kPClamp, aPos, aCh, hcf2, w3, hws, hgi]
          exact ⟨⟨by omega, by omega⟩, ⟨by omega, by omega⟩, ⟨by omega, hlt⟩, by rw [List.length_take]; omega, ⟨by omega, by omega⟩, by rw [List.length_take, List.length_drop]; omega, i + 1, by omega, by omega, rfl, ⟨subX_eq rfl rfl, subX_eq rfl rfl⟩, by rw [wrap64 (by omega) (by omega)]; rfl⟩
      | false =>
        have hA := of_decide_eq_false hA2
        rw [if_neg hA] at hwas
        simp (maxSteps := 4000000) only [↓wpA_H, ↓wpH_skip, ↓wpH_seq, ↓wpH_cond, ↓wpH_block, ↓wpH_loop, ↓wpH_region, ↓iselH_true, ↓iselH_false, bselH_false, runH_nil, runH_cons, gw, gselH_plain, cselH_bool, ↓chk, justK, noW, ↓oneK, ↓pureK, ↓heapK, ↓thenA_normal, ↓stepEv, opnd, Pg.look, binK, intOp, Bool.false_eq_true, implies_true, true_and, and_true, valV, heapV, footV, binV, intV, ofV, ofLeaf, slen, ldCells, objAt, AV.cells, TK.cells, List.getElem?_cons_zero, Option.getD_some, reduceCtorEq, Nat.reduceEqDiff, List.length_cons, List.length_nil, Nat.zero_add, ite_true, ite_false, Option.some.injEq, AV.int.injEq, and_self, exists_eq_left', List.length_map, List.contains_nil, List.getD_cons_zero, Nat.add_zero, Nat.zero_lt_succ, tk3, tk22, tk27, dz27, kPKnown, kText, kSPlace, kPDo, kApply, kPClamp, aPos, aCh, hct, w3, hA2]
        refine loopH_intro (α := Nat) (fun j => ([(0, .sl 1 (ls.map .str)), (1, .sl 1 (L.map .str)), (11, .ptr 0 2 1 0 0), (13, .ptr 1 2 1 0 0), (15, .sl 1 (now.map .str)), (17, .int .i64 (p2)), (18, .int .i64 i), (19, .str (wasLine ls (p1 + i) ++ List.replicate j 32))], [.arr 27 2 [.agg [.int .i64 p1, .int .i64 p2]], .arr 27 2 [.agg [.int .i64 y1, .int .i64 y2]]])) (fun j => j = 0 ∨ ((wasLine ls (p1 + i)).length : Int) + j ≤ p2) (fun j => (p2 - (wasLine ls (p1 + i)).length).toNat - j) 0 (by omega) ?_ ?_
        · simp (maxSteps := 4000000) only [Pg.look, true_and, and_true, subA, subQ, ptrsE, pairsO, frzO, subF, subG, pickOf, assocN, pairsE, pairsC, pairsL, pairs0, frzE, frzC, frzL, frz0, frzH, Pg.freeze, List.foldl_nil, subOs, subO, subEv, subV_succ, subM, List.getElem?_cons_succ, List.getElem?_cons_zero, reduceCtorEq, Nat.reduceEqDiff, List.nil_append, List.append_nil, List.cons_append, Nat.zero_add, ite_true, ite_false, and_self, Nat.lt_irrefl, Nat.not_lt_zero]
          exact ⟨rfl, ⟨subX_eq rfl rfl, subX_eq rfl rfl⟩, by rw [hwas]; exact (List.append_nil _).symm⟩
        intro j hj
        by_cases hlt2 : (((wasLine ls (p1 + i)).length + j : Nat) : Int) < p2
        · have hct2 : decide ((((wasLine ls (p1 + i)).length + j : Nat) : Int) < p2) = true := decide_eq_true hlt2
          simp (maxSteps := 4000000) only [↓wpA_H, ↓wpH_skip, ↓wpH_seq, ↓wpH_cond, ↓wpH_block, ↓wpH_region, ↓iselH_true, bselH_false, runH_nil, runH_cons, gw, gselH_plain, cselH_bool, ↓chk, justK, ↓oneK, ↓pureK, ↓thenA_normal, ↓blockA_normal, ↓stepEv, opnd, Pg.look, binK, intOp, strOp, Bool.false_eq_true, implies_true, true_and, and_true, valV, heapV, footV, binV, intV, strV, ofV, ofLeaf, subA, subQ, ptrsE, pairsO, frzO, subF, subG, pickOf, assocN, pairsE, pairsC, pairsL, pairs0, frzE, frzC, frzL, frz0, frzH, Pg.freeze, List.foldl_nil, subOs, subO, subEv, subV_succ, subM, List.getElem?_cons_succ, List.getElem?_cons_zero, reduceCtorEq, Nat.reduceEqDiff, List.nil_append, List.append_nil, List.cons_append, List.length_cons, List.length_nil, Nat.zero_add, ite_true, ite_false, and_self, List.length_append, List.contains_nil, Nat.reduceLeDiff, Nat.lt_irrefl, Nat.not_lt_zero, tk9, kPKnown, kText, kSPlace, kPDo, kApply, kPClamp, aPos, aCh, List.length_replicate, hct2]
          exact ⟨by omega, j + 1, by omega, by omega, rfl, ⟨subX_eq rfl rfl, subX_eq rfl rfl⟩, by rw [List.append_assoc, ← List.replicate_succ']⟩
        · have hws := wide_step (wasLine ls (p1 + i)) (p2) j (by omega) hj
          have hwl2 : (wasLine ls (p1 + i)).length + j = (wide (wasLine ls (p1 + i)) (p2)).length := by rw [← hws, List.length_append, List.length_replicate]
          have hcf2 : decide (((wide (wasLine ls (p1 + i)) (p2)).length : Int) < p2) = false := by rw [← hwl2]; exact decide_eq_false hlt2
          simp (maxSteps := 4000000) only [↓wpA_H, ↓wpH_skip, ↓wpH_ret, ↓wpH_exit, ↓wpH_seq, ↓wpH_cond, ↓wpH_region, ↓iselH_false, bselH_false, runH_nil, runH_cons, gw, gselH_plain, cselH_bool, ↓chk, justK, noW, ↓oneK, ↓pureK, ↓heapK, ↓thenA_normal, ↓thenA_exit, ↓blockA_normal, ↓blockA_exit, ↓stepEv, opnd, Pg.look, binK, intOp, strOp, cellsEq, leafEq, Bool.and_true, Bool.not_true, Bool.false_eq_true, false_implies, implies_true, true_and, and_true, valV, heapV, footV, binV, intV, strV, cutV, ofV, ofLeaf, retA, resK, tupA, subA, subQ, ptrsE, pairsO, frzO, subF, subG, pickOf, assocN, pairsE, pairsC, pairsL, pairs0, frzE, frzC, frzL, frz0, frzH, Pg.freeze, List.foldl_nil, subOs, subO, subEv, subV_succ, subM, ldCells, objAt, sliceS, ↓callT, callC, callV, callH, normArgs, normA, normC, resL, res8_eq, res_succ, resM, shiftR, shift1, AV.cells, TK.cells, AV.definite, lay, buildL, List.getElem?_cons_succ, List.getElem?_cons_zero, Option.map_some, Option.map_none, Option.getD_some, reduceCtorEq, Nat.reduceEqDiff, Nat.reduceAdd, List.nil_append, List.append_nil, List.cons_append, List.length_cons, List.length_nil, List.map_cons, List.map_nil, Nat.zero_add, ite_true, ite_false, Option.some.injEq, Option.isSome_some, AV.agg.injEq, Prod.mk.injEq, List.all_cons, List.all_nil, Bool.and_self, and_self, exists_eq_left', pickOK_nil, List.length_map, cInt_dec, cBool_dec, List.length_append, cSl_dec, cAgg_dec, lOne_dec, lCons_dec, dec2_some, List.contains_nil, beq_self_eq_true, List.range'_zero, decL_str, C1by_ns, C1by_pre, C1by_r, C1by_H, optP_some, optV_some, optH_some, getD_str, Int.toNat_natCast, List.getD_cons_zero, cutL, List.drop_zero, List.drop_succ_cons, List.take_succ_cons, List.take_zero, Nat.add_zero, Nat.sub_zero, Nat.reduceLeDiff, Nat.le_refl, Nat.lt_irrefl, List.drop_nil, List.take_nil, Nat.not_lt_zero, Nat.zero_lt_succ, tk3, tk9, dz9, tk22, tk27, tz27, dz27, eq27, kPKnown, kText, kSPlace, kPDo, kApply, kPClamp, aPos, aCh, hcf2, w3, hws, hgi]
          exact ⟨⟨by omega, by omega⟩, ⟨by omega, by omega⟩, ⟨by omega, hlt⟩, by rw [List.length_take]; omega, ⟨by omega, by omega⟩, by rw [List.length_take, List.length_drop]; omega, i + 1, by omega, by omega, rfl, ⟨subX_eq rfl rfl, subX_eq rfl rfl⟩, by rw [wrap64 (by omega) (by omega)]; rfl⟩
    · have hcf : decide ((i : Int) < (L.length : Int)) = false := decide_eq_false (by omega)
      simp (maxSteps := 4000000) only [↓wpA_H, ↓wpH_ret, ↓wpH_exit, ↓wpH_seq, ↓wpH_cond, ↓wpH_region, ↓iselH_false, bselH_false, runH_nil, runH_cons, gw, gselH_plain, cselH_bool, ↓chk, justK, noW, ↓oneK, ↓pureK, ↓heapK, ↓thenA_normal, ↓thenA_exit, ↓blockA_exit, ↓stepEv, opnd, Pg.look, binK, intOp, cellsEq, leafEq, Bool.false_eq_true, false_implies, implies_true, true_and, and_true, valV, heapV, footV, binV, intV, ofV, ofLeaf, retA, resK, tupA, subA, subQ, ptrsE, frzO, subF, subG, pickOf, frzE, frzC, frz0, frzH, Pg.freeze, List.foldl_nil, subOs, subEv, subV_succ, subM, slen, ldCells, objAt, ↓callT, callC, callV, callH, normArgs, normA, normC, resL, res8_eq, res_succ, resM, shiftR, shift1, AV.cells, TK.cells, AV.definite, lay, buildL, List.getElem?_cons_succ, List.getElem?_cons_zero, Option.getD_some, reduceCtorEq, Nat.reduceEqDiff, Nat.reduceAdd, List.nil_append, List.append_nil, List.cons_append, List.length_cons, List.length_nil, List.map_cons, List.map_nil, Nat.zero_add, ite_true, ite_false, Option.some.injEq, Option.isSome_some, AV.int.injEq, AV.agg.injEq, Prod.mk.injEq, List.all_cons, List.all_nil, Bool.and_self, and_self, exists_eq_left', pickOK_nil, List.length_map, cInt_dec, cBool_dec, cSl_dec, cAgg_dec, lOne_dec, lCons_dec, dec2_some, List.contains_nil, beq_self_eq_true, List.range'_zero, decL_str, C1by_ns, C1by_pre, C1by_r, C1by_H, optP_some, optV_some, optH_some, List.getD_cons_zero, cutL, List.drop_zero, List.drop_succ_cons, List.take_succ_cons, List.take_zero, Nat.add_zero, Nat.sub_zero, Nat.reduceLeDiff, Nat.le_refl, List.drop_nil, List.take_nil, Nat.zero_lt_succ, tk3, tk22, tk27, tz27, dz27, eq27, kPKnown, kText, kSPlace, kPDo, kApply, kPClamp, aPos, aCh, hcf, q11]
      exact smn

  | false =>
  cases hbf : (ls.getD p1.toNat []) == [] with
  | true =>
    have hcol : c = p2 := by
      have : ls.getD p1.toNat [] = [] := by simpa using hbf
      rw [this] at hcol
      exact hcol
    rw [hcol] at q8 q9 q10
    have q11 : clampP now (p1, p2) false = (y1, y2) := hcol ▸ hY
    simp (maxSteps := 4000000) only [↓wpA_H, ↓wpH_skip, ↓wpH_seq, ↓wpH_cond, ↓wpH_block, ↓wpH_loop, ↓wpH_region, ↓iselH_true, ↓iselH_false, bselH_false, runH_nil, runH_cons, ↓fixG, setG, gw, gselH_plain, gselH_if, kselH_2, cselH_bool, gkind, ↓chk, justK, noW, ↓oneK, ↓pureK, ↓heapK, envOf, ↓thenA_normal, ↓stepEv, opnd, Pg.look, binK, intOp, strOp, dstOf, Bool.and_true, Bool.not_false, Bool.not_true, Bool.false_eq_true, Bool.true_eq_false, false_implies, implies_true, true_and, and_true, pickC, pickV, unc, gof, mux, valV, heapV, footV, binV, intV, strV, mergeable, ofV, ofLeaf, Pg.freeze, List.foldl_nil, List.foldl_cons, slen, ldCells, objAt, ↓callT, callC, callV, callH, normArgs, normA, normC, normL, normE, resL, res8_eq, res_succ, resM, shiftR, shift1, AV.cells, TK.cells, AV.definite, AV.leaf, AV.leafy, AV.pureLeaf, AV.pureB, putCells, lay, buildL, foldInts, frzAt, List.getElem?_toArray, List.getElem?_cons_succ, List.getElem?_cons_zero, Option.bind_some, Option.getD_some, reduceCtorEq, Nat.reduceEqDiff, Nat.reduceAdd, List.nil_append, List.append_nil, List.cons_append, List.length_cons, List.length_nil, List.map_cons, List.map_nil, List.set_cons_zero, List.set_cons_succ, Nat.zero_add, ite_true, ite_false, Option.some.injEq, Option.isSome_some, AV.int.injEq, AV.agg.injEq, Prod.mk.injEq, List.all_cons, List.all_nil, Bool.and_self, and_self, exists_eq_left', List.length_map, cInt_dec, cBool_dec, rg1, cSl_dec, cAgg_dec, lNil_dec, lOne_dec, lCons_dec, dec2_some, List.contains_nil, beq_self_eq_true, decL_nil, decL_cons, consO_some, List.range'_zero, Nat.reducePow, decL_str, C1by_ns, C1by_pre, C1by_r, C1by_H, optP_some, optV_some, optH_some, getD_str, List.getD_cons_zero, cutL, List.drop_zero, List.drop_succ_cons, List.take_succ_cons, List.take_zero, Nat.add_zero, Nat.sub_zero, Nat.reduceLeDiff, Nat.le_refl, Nat.one_mul, List.drop_nil, List.take_nil, Nat.zero_lt_succ, tk3, tk9, dz9, tk22, tk27, tz27, dz27, tk32, tz32, tk35, tz35, dz35, eb35, tk40, kPKnown, kText, kSPlace, kPDo, kApply, kPClamp, aPos, aCh, ht, ht2, d8, hq, q3, ap1, w1, hne, hbf]
    refine ⟨hs, hsL, ⟨hl0, hsm, ha, hb⟩, ⟨hsm, by omega, lls, fL, hpre⟩, ⟨by omega, m1⟩, ⟨v1, by omega⟩, ?_⟩
    refine loopH_intro (α := Nat) (fun i => ([(0, .sl 1 (ls.map .str)), (1, .sl 1 (L.map .str)), (11, .ptr 0 2 1 0 0), (13, .ptr 1 2 1 0 0), (15, .sl 1 (now.map .str)), (17, .int .i64 (p2)), (18, .int .i64 i)], [.arr 27 2 [.agg [.int .i64 p1, .int .i64 p2]], .arr 27 2 [.agg [.int .i64 y1, .int .i64 y2]]])) (fun i => i ≤ L.length) (fun i => L.length - i) 0 (by omega) ?_ ?_
    · simp (maxSteps := 4000000) only [Pg.look, true_and, and_true, subA, subQ, ptrsE, pairsO, frzO, subF, subG, pickOf, assocN, pairsE, pairsC, pairsL, pairs0, frzE, frzC, frzL, frz0, frzH, Pg.freeze, List.foldl_nil, subOs, subO, subEv, subV_succ, subM, List.getElem?_cons_succ, List.getElem?_cons_zero, reduceCtorEq, Nat.reduceEqDiff, List.nil_append, List.append_nil, List.cons_append, Nat.zero_add, ite_true, ite_false, and_self, Int.cast_ofNat_Int, Nat.lt_irrefl, Nat.not_lt_zero]
      exact ⟨rfl, subX_eq rfl rfl, subX_eq rfl rfl⟩
    intro i hi
    by_cases hlt : i < L.length
    · have hct : decide ((i : Int) < (L.length : Int)) = true := decide_eq_true (by omega)
      have w3 : IntKind.i64.wrap (p1 + (i : Int)) = p1 + i := wrap64 (by omega) (by omega)
      have hgi := q10 i hlt
      have hki := kl2 i
      have hni := hnf (p1 + (i : Int)).toNat
      have hwas : wasLine ls (p1 + i) = if p1 + (i : Int) < ls.length then ls.getD (p1 + (i : Int)).toNat [] else [] := rfl
      have hwl : (wasLine ls (p1 + i)).length ≤ 1200 := by
        rw [hwas]
        split
        · exact hl2 _
        · simp
      have hww := wide_length (wasLine ls (p1 + i)) (p2)
      cases hA2 : decide (p1 + (i : Int) < (ls.length : Int)) with
      | true =>
        have hA := of_decide_eq_true hA2
        rw [if_pos hA] at hwas
        simp (maxSteps := 4000000) only [↓wpA_H, ↓wpH_skip, ↓wpH_seq, ↓wpH_cond, ↓wpH_block, ↓wpH_loop, ↓wpH_region, ↓iselH_true, bselH_false, runH_nil, runH_cons, gw, gselH_plain, cselH_bool, ↓chk, justK, noW, ↓oneK, ↓pureK, ↓heapK, ↓thenA_normal, ↓stepEv, opnd, Pg.look, binK, intOp, Bool.false_eq_true, implies_true, true_and, and_true, valV, heapV, footV, binV, intV, ofV, ofLeaf, slen, ldCells, objAt, AV.cells, TK.cells, List.getElem?_cons_zero, Option.getD_some, reduceCtorEq, Nat.reduceEqDiff, List.length_cons, List.length_nil, Nat.zero_add, ite_true, ite_false, Option.some.injEq, AV.int.injEq, and_self, exists_eq_left', List.length_map, List.contains_nil, getD_str, List.getD_cons_zero, Nat.add_zero, Nat.zero_lt_succ, tk3, tk9, dz9, tk22, tk27, dz27, kPKnown, kText, kSPlace, kPDo, kApply, kPClamp, aPos, aCh, hct, w3, hA2]
        refine ⟨⟨by omega, by omega⟩, ?_⟩
        refine loopH_intro (α := Nat) (fun j => ([(0, .sl 1 (ls.map .str)), (1, .sl 1 (L.map .str)), (11, .ptr 0 2 1 0 0), (13, .ptr 1 2 1 0 0), (15, .sl 1 (now.map .str)), (17, .int .i64 (p2)), (18, .int .i64 i), (19, .str (wasLine ls (p1 + i) ++ List.replicate j 32))], [.arr 27 2 [.agg [.int .i64 p1, .int .i64 p2]], .arr 27 2 [.agg [.int .i64 y1, .int .i64 y2]]])) (fun j => j = 0 ∨ ((wasLine ls (p1 + i)).length : Int) + j ≤ p2) (fun j => (p2 - (wasLine ls (p1 + i)).length).toNat - j) 0 (by omega) ?_ ?_
        · simp (maxSteps := 4000000) only [Pg.look, true_and, and_true, subA, subQ, ptrsE, pairsO, frzO, subF, subG, pickOf, assocN, pairsE, pairsC, pairsL, pairs0, frzE, frzC, frzL, frz0, frzH, Pg.freeze, List.foldl_nil, subOs, subO, subEv, subV_succ, subM, List.getElem?_cons_succ, List.getElem?_cons_zero, reduceCtorEq, Nat.reduceEqDiff, List.nil_append, List.append_nil, List.cons_append, Nat.zero_add, ite_true, ite_false, and_self, Nat.lt_irrefl, Nat.not_lt_zero]
          exact ⟨rfl, ⟨subX_eq rfl rfl, subX_eq rfl rfl⟩, by rw [hwas]; exact (List.append_nil _).symm⟩
        intro j hj
        by_cases hlt2 : (((wasLine ls (p1 + i)).length + j : Nat) : Int) < p2
        · have hct2 : decide ((((wasLine ls (p1 + i)).length + j : Nat) : Int) < p2) = true := decide_eq_true hlt2
          simp (maxSteps := 4000000) only [↓wpA_H, ↓wpH_skip, ↓wpH_seq, ↓wpH_cond, ↓wpH_block, ↓wpH_region, ↓iselH_true, bselH_false, runH_nil, runH_cons, gw, gselH_plain, cselH_bool, ↓chk, justK, ↓oneK, ↓pureK, ↓thenA_normal, ↓blockA_normal, ↓stepEv, opnd, Pg.look, binK, intOp, strOp, Bool.false_eq_true, implies_true, true_and, and_true, valV, heapV, footV, binV, intV, strV, ofV, ofLeaf, subA, subQ, ptrsE, pairsO, frzO, subF, subG, pickOf, assocN, pairsE, pairsC, pairsL, pairs0, frzE, frzC, frzL, frz0, frzH, Pg.freeze, List.foldl_nil, subOs, subO, subEv, subV_succ, subM, List.getElem?_cons_succ, List.getElem?_cons_zero, reduceCtorEq, Nat.reduceEqDiff, List.nil_append, List.append_nil, List.cons_append, List.length_cons, List.length_nil, Nat.zero_add, ite_true, ite_false, and_self, List.length_append, List.contains_nil, Nat.reduceLeDiff, Nat.lt_irrefl, Nat.not_lt_zero, tk9, kPKnown, kText, kSPlace, kPDo, kApply, kPClamp, aPos, aCh, List.length_replicate, hct2]
          exact ⟨by omega, j + 1, by omega, by omega, rfl, ⟨subX_eq rfl rfl, subX_eq rfl rfl⟩, by rw [List.append_assoc, ← List.replicate_succ']⟩
        · have hws := wide_step (wasLine ls (p1 + i)) (p2) j (by omega) hj
          have hwl2 : (wasLine ls (p1 + i)).length + j = (wide (wasLine ls (p1 + i)) (p2)).length := by rw [← hws, List.length_append, List.length_replicate]
          have hcf2 : decide (((wide (wasLine ls (p1 + i)) (p2)).length : Int) < p2) = false := by rw [← hwl2]; exact decide_eq_false hlt2
          simp (maxSteps := 4000000) only [↓wpA_H, ↓wpH_skip, ↓wpH_ret, ↓wpH_exit, ↓wpH_seq, ↓wpH_cond, ↓wpH_region, ↓iselH_false, bselH_false, runH_nil, runH_cons, gw, gselH_plain, cselH_bool, ↓chk, justK, noW, ↓oneK, ↓pureK, ↓heapK, ↓thenA_normal, ↓thenA_exit, ↓blockA_normal, ↓blockA_exit, ↓stepEv, opnd, Pg.look, binK, intOp, strOp, cellsEq, leafEq, Bool.and_true, Bool.not_true, Bool.false_eq_true, false_implies, implies_true, true_and, and_true, valV, heapV, footV, binV, intV, strV, cutV, ofV, ofLeaf, retA, resK, tupA, subA, subQ, ptrsE, pairsO, frzO, subF, subG, pickOf, assocN, pairsE, pairsC, pairsL, pairs0, frzE, frzC, frzL, frz0, frzH, Pg.freeze, List.foldl_nil, subOs, subO, subEv, subV_succ, subM, ldCells, objAt, sliceS, ↓callT, callC, callV, callH, normArgs, normA, normC, resL, res8_eq, res_succ, resM, shiftR, shift1, AV.cells, TK.cells, AV.definite, lay, buildL, List.getElem?_cons_succ, List.getElem?_cons_zero, Option.map_some, Option.map_none, Option.getD_some, reduceCtorEq, Nat.reduceEqDiff, Nat.reduceAdd, List.nil_append, List.append_nil, List.cons_append, List.length_cons, List.length_nil, List.map_cons, List.map_nil, Nat.zero_add, ite_true, ite_false, Option.some.injEq, Option.isSome_some, AV.agg.injEq, Prod.mk.injEq, List.all_cons, List.all_nil, Bool.and_self, and_self, exists_eq_left', pickOK_nil, List.length_map, cInt_dec, cBool_dec, List.length_append, cSl_dec, cAgg_dec, lOne_dec, lCons_dec, dec2_some, List.contains_nil, beq_self_eq_true, List.range'_zero, decL_str, C1by_ns, C1by_pre, C1by_r, C1by_H, optP_some, optV_some, optH_some, getD_str, Int.toNat_natCast, List.getD_cons_zero, cutL, List.drop_zero, List.drop_succ_cons, List.take_succ_cons, List.take_zero, Nat.add_zero, Nat.sub_zero, Nat.reduceLeDiff, Nat.le_refl, Nat.lt_irrefl, List.drop_nil, List.take_nil, Nat.not_lt_zero, Nat.zero_lt_succ, tk3, tk9, dz9, tk22, tk27, tz27, dz27, eq27, kPKnown, kText, kSPlace, kPDo, kApply, kPClamp, aPos, aCh, hcf2, w3, hws, hgi]
          exact ⟨⟨by omega, by omega⟩, ⟨by omega, by omega⟩, ⟨by omega, hlt⟩, by rw [List.length_take]; omega, ⟨by omega, by omega⟩, by rw [List.length_take, List.length_drop]; omega, i + 1, by omega, by omega, rfl, ⟨subX_eq rfl rfl, subX_eq rfl rfl⟩, by rw [wrap64 (by omega) (by omega)]; rfl⟩
      | false =>
        have hA := of_decide_eq_false hA2
        rw [if_neg hA] at hwas
        simp (maxSteps := 4000000) only [↓wpA_H, ↓wpH_skip, ↓wpH_seq, ↓wpH_cond, ↓wpH_block, ↓wpH_loop, ↓wpH_region, ↓iselH_true, ↓iselH_false, bselH_false, runH_nil, runH_cons, gw, gselH_plain, cselH_bool, ↓chk, justK, noW, ↓oneK, ↓pureK, ↓heapK, ↓thenA_normal, ↓stepEv, opnd, Pg.look, binK, intOp, Bool.false_eq_true, implies_true, true_and, and_true, valV, heapV, footV, binV, intV, ofV, ofLeaf, slen, ldCells, objAt, AV.cells, TK.cells, List.getElem?_cons_zero, Option.getD_some, reduceCtorEq, Nat.reduceEqDiff, List.length_cons, List.length_nil, Nat.zero_add, ite_true, ite_false, Option.some.injEq, AV.int.injEq, and_self, exists_eq_left', List.length_map, List.contains_nil, List.getD_cons_zero, Nat.add_zero, Nat.zero_lt_succ, tk3, tk22, tk27, dz27, kPKnown, kText, kSPlace, kPDo, kApply, kPClamp, aPos, aCh, hct, w3, hA2]
        refine loopH_intro (α := Nat) (fun j => ([(0, .sl 1 (ls.map .str)), (1, .sl 1 (L.map .str)), (11, .ptr 0 2 1 0 0), (13, .ptr 1 2 1 0 0), (15, .sl 1 (now.map .str)), (17, .int .i64 (p2)), (18, .int .i64 i), (19, .str (wasLine ls (p1 + i) ++ List.replicate j 32))], [.arr 27 2 [.agg [.int .i64 p1, .int .i64 p2]], .arr 27 2 [.agg [.int .i64 y1, .int .i64 y2]]])) (fun j => j = 0 ∨ ((wasLine ls (p1 + i)).length : Int) + j ≤ p2) (fun j => (p2 - (wasLine ls (p1 + i)).length).toNat - j) 0 (by omega) ?_ ?_
        · simp (maxSteps := 4000000) only [Pg.look, true_and, and_true, subA, subQ, ptrsE, pairsO, frzO, subF, subG, pickOf, assocN, pairsE, pairsC, pairsL, pairs0, frzE, frzC, frzL, frz0, frzH, Pg.freeze, List.foldl_nil, subOs, subO, subEv, subV_succ, subM, List.getElem?_cons_succ, List.getElem?_cons_zero, reduceCtorEq, Nat.reduceEqDiff, List.nil_append, List.append_nil, List.cons_append, Nat.zero_add, ite_true, ite_false, and_self, Nat.lt_irrefl, Nat.not_lt_zero]
          exact ⟨rfl, ⟨subX_eq rfl rfl, subX_eq rfl rfl⟩, by rw [hwas]; exact (List.append_nil _).symm⟩
        intro j hj
        by_cases hlt2 : (((wasLine ls (p1 + i)).length + j : Nat) : Int) < p2
        · have hct2 : decide ((((wasLine ls (p1 + i)).length + j : Nat) : Int) < p2) = true := decide_eq_true hlt2
          simp (maxSteps := 4000000) only [↓wpA_H, ↓wpH_skip, ↓wpH_seq, ↓wpH_cond, ↓wpH_block, ↓wpH_region, ↓iselH_true, bselH_false, runH_nil, runH_cons, gw, gselH_plain, cselH_bool, ↓chk, justK, ↓oneK, ↓pureK, ↓thenA_normal, ↓blockA_normal, ↓stepEv, opnd, Pg.look, binK, intOp, strOp, Bool.false_eq_true, implies_true, true_and, and_true, valV, heapV, footV, binV, intV, strV, ofV, ofLeaf, subA, subQ, ptrsE, pairsO, frzO, subF, subG, pickOf, assocN, pairsE, pairsC, pairsL, pairs0, frzE, frzC, frzL, frz0, frzH, Pg.freeze, List.foldl_nil, subOs, subO, subEv, subV_succ, subM, List.getElem?_cons_succ, List.getElem?_cons_zero, reduceCtorEq, Nat.reduceEqDiff, List.nil_append, List.append_nil, List.cons_append, List.length_cons, List.length_nil, Nat.zero_add, ite_true, ite_false, and_self, List.length_append, List.contains_nil, Nat.reduceLeDiff, Nat.lt_irrefl, Nat.not_lt_zero, tk9, kPKnown, kText, kSPlace, kPDo, kApply, kPClamp, aPos, aCh, List.length_replicate, hct2]
          exact ⟨by omega, j + 1, by omega, by omega, rfl, ⟨subX_eq rfl rfl, subX_eq rfl rfl⟩, by rw [List.append_assoc, ← List.replicate_succ']⟩
        · have hws := wide_step (wasLine ls (p1 + i)) (p2) j (by omega) hj
          have hwl2 : (wasLine ls (p1 + i)).length + j = (wide (wasLine ls (p1 + i)) (p2)).length := by rw [← hws, List.length_append, List.length_replicate]
          have hcf2 : decide (((wide (wasLine ls (p1 + i)) (p2)).length : Int) < p2) = false := by rw [← hwl2]; exact decide_eq_false hlt2
          simp (maxSteps := 4000000) only [↓wpA_H, ↓wpH_skip, ↓wpH_ret, ↓wpH_exit, ↓wpH_seq, ↓wpH_cond, ↓wpH_region, ↓iselH_false, bselH_false, runH_nil, runH_cons, gw, gselH_plain, cselH_bool, ↓chk, justK, noW, ↓oneK, ↓pureK, ↓heapK, ↓thenA_normal, ↓thenA_exit, ↓blockA_normal, ↓blockA_exit, ↓stepEv, opnd, Pg.look, binK, intOp, strOp, cellsEq, leafEq, Bool.and_true, Bool.not_true, Bool.false_eq_true, false_implies, implies_true, true_and, and_true, valV, heapV, footV, binV, intV, strV, cutV, ofV, ofLeaf, retA, resK, tupA, subA, subQ, ptrsE, pairsO, frzO, subF, subG, pickOf, assocN, pairsE, pairsC, pairsL, pairs0, frzE, frzC, frzL, frz0, frzH, Pg.freeze, List.foldl_nil, subOs, subO, subEv, subV_succ, subM, ldCells, objAt, sliceS, ↓callT, callC, callV, callH, normArgs, normA, normC, resL, res8_eq, res_succ, resM, shiftR, shift1, AV.cells, TK.cells, AV.definite, lay, buildL, List.getElem?_cons_succ, List.getElem?_cons_zero, Option.map_some, Option.map_none, Option.getD_some, reduceCtorEq, Nat.reduceEqDiff, Nat.reduceAdd, List.nil_append, List.append_nil, List.cons_append, List.length_cons, List.length_nil, List.map_cons, List.map_nil, Nat.zero_add, ite_true, ite_false, Option.some.injEq, Option.isSome_some, AV.agg.injEq, Prod.mk.injEq, List.all_cons, List.all_nil, Bool.and_self, and_self, exists_eq_left', pickOK_nil, List.length_map, cInt_dec, cBool_dec, List.length_append, cSl_dec, cAgg_dec, lOne_dec, lCons_dec, dec2_some, List.contains_nil, beq_self_eq_true, List.range'_zero, decL_str, C1by_ns, C1by_pre, C1by_r, C1by_H, optP_some, optV_some, optH_some, getD_str, Int.toNat_natCast, List.getD_cons_zero, cutL, List.drop_zero, List.drop_succ_cons, List.take_succ_cons, List.take_zero, Nat.add_zero, Nat.sub_zero, Nat.reduceLeDiff, Nat.le_refl, Nat.lt_irrefl, List.drop_nil, List.take_nil, Nat.not_lt_zero, Nat.zero_lt_succ, tk3, tk9, dz9, tk22, tk27, tz27, dz27, eq27, kPKnown, kText, kSPlace, kPDo, kApply, kPClamp, aPos, aCh, hcf2, w3, hws, hgi]
          exact ⟨⟨by omega, by omega⟩, ⟨by omega, by omega⟩, ⟨by omega, hlt⟩, by rw [List.length_take]; omega, ⟨by omega, by omega⟩, by rw [List.length_take, List.length_drop]; omega, i + 1, by omega, by omega, rfl, ⟨subX_eq rfl rfl, subX_eq rfl rfl⟩, by rw [wrap64 (by omega) (by omega)]; rfl⟩
    · have hcf : decide ((i : Int) < (L.length : Int)) = false := decide_eq_false (by omega)
      simp (maxSteps := 4000000) only [↓wpA_H, ↓wpH_ret, ↓wpH_exit, ↓wpH_seq, ↓wpH_cond, ↓wpH_region, ↓iselH_false, bselH_false, runH_nil, runH_cons, gw, gselH_plain, cselH_bool, ↓chk, justK, noW, ↓oneK, ↓pureK, ↓heapK, ↓thenA_normal, ↓thenA_exit, ↓blockA_exit, ↓stepEv, opnd, Pg.look, binK, intOp, cellsEq, leafEq, Bool.false_eq_true, false_implies, implies_true, true_and, and_true, valV, heapV, footV, binV, intV, ofV, ofLeaf, retA, resK, tupA, subA, subQ, ptrsE, frzO, subF, subG, pickOf, frzE, frzC, frz0, frzH, Pg.freeze, List.foldl_nil, subOs, subEv, subV_succ, subM, slen, ldCells, objAt, ↓callT, callC, callV, callH, normArgs, normA, normC, resL, res8_eq, res_succ, resM, shiftR, shift1, AV.cells, TK.cells, AV.definite, lay, buildL, List.getElem?_cons_succ, List.getElem?_cons_zero, Option.getD_some, reduceCtorEq, Nat.reduceEqDiff, Nat.reduceAdd, List.nil_append, List.append_nil, List.cons_append, List.length_cons, List.length_nil, List.map_cons, List.map_nil, Nat.zero_add, ite_true, ite_false, Option.some.injEq, Option.isSome_some, AV.int.injEq, AV.agg.injEq, Prod.mk.injEq, List.all_cons, List.all_nil, Bool.and_self, and_self, exists_eq_left', pickOK_nil, List.length_map, cInt_dec, cBool_dec, cSl_dec, cAgg_dec, lOne_dec, lCons_dec, dec2_some, List.contains_nil, beq_self_eq_true, List.range'_zero, decL_str, C1by_ns, C1by_pre, C1by_r, C1by_H, optP_some, optV_some, optH_some, List.getD_cons_zero, cutL, List.drop_zero, List.drop_succ_cons, List.take_succ_cons, List.take_zero, Nat.add_zero, Nat.sub_zero, Nat.reduceLeDiff, Nat.le_refl, List.drop_nil, List.take_nil, Nat.zero_lt_succ, tk3, tk22, tk27, tz27, dz27, eq27, kPKnown, kText, kSPlace, kPDo, kApply, kPClamp, aPos, aCh, hcf, q11]
      exact smn

  | false =>
    have hcol : c = p2 + 1 := by
      rw [hcol, if_pos]
      rw [beq_eq_false_iff_ne] at hbf
      have h0 := List.length_pos_iff.2 hbf
      rw [decide_eq_true h0]; rfl
    rw [hcol] at q8 q9 q10
    have q11 : clampP now (p1, p2 + 1) false = (y1, y2) := hcol ▸ hY
    simp (maxSteps := 4000000) only [↓wpA_H, ↓wpH_skip, ↓wpH_seq, ↓wpH_cond, ↓wpH_block, ↓wpH_loop, ↓wpH_region, ↓iselH_true, ↓iselH_false, bselH_false, runH_nil, runH_cons, ↓fixG, setG, gw, gselH_plain, gselH_if, kselH_2, cselH_bool, gkind, ↓chk, justK, noW, ↓oneK, ↓pureK, ↓heapK, envOf, ↓thenA_normal, ↓stepEv, opnd, Pg.look, binK, intOp, strOp, dstOf, Bool.and_true, Bool.not_false, Bool.not_true, Bool.false_eq_true, Bool.true_eq_false, false_implies, implies_true, true_and, and_true, pickC, pickV, unc, gof, mux, valV, heapV, footV, binV, intV, strV, mergeable, ofV, ofLeaf, Pg.freeze, List.foldl_nil, List.foldl_cons, slen, ldCells, objAt, ↓callT, callC, callV, callH, normArgs, normA, normC, normL, normE, resL, res8_eq, res_succ, resM, shiftR, shift1, AV.cells, TK.cells, AV.definite, AV.leaf, AV.leafy, AV.pureLeaf, AV.pureB, putCells, lay, buildL, foldInts, frzAt, List.getElem?_toArray, List.getElem?_cons_succ, List.getElem?_cons_zero, Option.bind_some, Option.getD_some, reduceCtorEq, Nat.reduceEqDiff, Nat.reduceAdd, List.nil_append, List.append_nil, List.cons_append, List.length_cons, List.length_nil, List.map_cons, List.map_nil, List.set_cons_zero, List.set_cons_succ, Nat.zero_add, ite_true, ite_false, Option.some.injEq, Option.isSome_some, AV.int.injEq, AV.agg.injEq, Prod.mk.injEq, List.all_cons, List.all_nil, Bool.and_self, and_self, exists_eq_left', List.length_map, cInt_dec, cBool_dec, rg1, cSl_dec, cAgg_dec, lNil_dec, lOne_dec, lCons_dec, dec2_some, List.contains_nil, beq_self_eq_true, decL_nil, decL_cons, consO_some, List.range'_zero, Nat.reducePow, decL_str, C1by_ns, C1by_pre, C1by_r, C1by_H, optP_some, optV_some, optH_some, getD_str, List.getD_cons_zero, cutL, List.drop_zero, List.drop_succ_cons, List.take_succ_cons, List.take_zero, Nat.add_zero, Nat.sub_zero, Nat.reduceLeDiff, Nat.le_refl, Nat.one_mul, List.drop_nil, List.take_nil, Nat.zero_lt_succ, tk3, tk9, dz9, tk22, tk27, tz27, dz27, tk32, tz32, tk35, tz35, dz35, eb35, tk40, kPKnown, kText, kSPlace, kPDo, kApply, kPClamp, aPos, aCh, ht, ht2, d8, hq, q3, ap1, w1, w2, hne, hbf]
    refine ⟨hs, hsL, ⟨hl0, hsm, ha, hb⟩, ⟨hsm, by omega, lls, fL, hpre⟩, ⟨by omega, m1⟩, ⟨v1, by omega⟩, ?_⟩
    refine loopH_intro (α := Nat) (fun i => ([(0, .sl 1 (ls.map .str)), (1, .sl 1 (L.map .str)), (11, .ptr 0 2 1 0 0), (13, .ptr 1 2 1 0 0), (15, .sl 1 (now.map .str)), (17, .int .i64 (p2 + 1)), (18, .int .i64 i)], [.arr 27 2 [.agg [.int .i64 p1, .int .i64 p2]], .arr 27 2 [.agg [.int .i64 y1, .int .i64 y2]]])) (fun i => i ≤ L.length) (fun i => L.length - i) 0 (by omega) ?_ ?_
    · simp (maxSteps := 4000000) only [Pg.look, true_and, and_true, subA, subQ, ptrsE, pairsO, frzO, subF, subG, pickOf, assocN, pairsE, pairsC, pairsL, pairs0, frzE, frzC, frzL, frz0, frzH, Pg.freeze, List.foldl_nil, subOs, subO, subEv, subV_succ, subM, List.getElem?_cons_succ, List.getElem?_cons_zero, reduceCtorEq, Nat.reduceEqDiff, List.nil_append, List.append_nil, List.cons_append, Nat.zero_add, ite_true, ite_false, and_self, Int.cast_ofNat_Int, Nat.lt_irrefl, Nat.not_lt_zero]
      exact ⟨rfl, subX_eq rfl rfl, subX_eq rfl rfl⟩
    intro i hi
    by_cases hlt : i < L.length
    · have hct : decide ((i : Int) < (L.length : Int)) = true := decide_eq_true (by omega)
      have w3 : IntKind.i64.wrap (p1 + (i : Int)) = p1 + i := wrap64 (by omega) (by omega)
      have hgi := q10 i hlt
      have hki := kl2 i
      have hni := hnf (p1 + (i : Int)).toNat
      have hwas : wasLine ls (p1 + i) = if p1 + (i : Int) < ls.length then ls.getD (p1 + (i : Int)).toNat [] else [] := rfl
      have hwl : (wasLine ls (p1 + i)).length ≤ 1200 := by
        rw [hwas]
        split
        · exact hl2 _
        · simp
      have hww := wide_length (wasLine ls (p1 + i)) (p2 + 1)
      cases hA2 : decide (p1 + (i : Int) < (ls.length : Int)) with
      | true =>
        have hA := of_decide_eq_true hA2
        rw [if_pos hA] at hwas
        simp (maxSteps := 4000000) only [↓wpA_H, ↓wpH_skip, ↓wpH_seq, ↓wpH_cond, ↓wpH_block, ↓wpH_loop, ↓wpH_region, ↓iselH_true, bselH_false, runH_nil, runH_cons, gw, gselH_plain, cselH_bool, ↓chk, justK, noW, ↓oneK, ↓pureK, ↓heapK, ↓thenA_normal, ↓stepEv, opnd, Pg.look, binK, intOp, Bool.false_eq_true, implies_true, true_and, and_true, valV, heapV, footV, binV, intV, ofV, ofLeaf, slen, ldCells, objAt, AV.cells, TK.cells, List.getElem?_cons_zero, Option.getD_some, reduceCtorEq, Nat.reduceEqDiff, List.length_cons, List.length_nil, Nat.zero_add, ite_true, ite_false, Option.some.injEq, AV.int.injEq, and_self, exists_eq_left', List.length_map, List.contains_nil, getD_str, List.getD_cons_zero, Nat.add_zero, Nat.zero_lt_succ, tk3, tk9, dz9, tk22, tk27, dz27, kPKnown, kText, kSPlace, kPDo, kApply, kPClamp, aPos, aCh, hct, w3, hA2]
        refine ⟨⟨by omega, by omega⟩, ?_⟩
        refine loopH_intro (α := Nat) (fun j => ([(0, .sl 1 (ls.map .str)), (1, .sl 1 (L.map .str)), (11, .ptr 0 2 1 0 0), (13, .ptr 1 2 1 0 0), (15, .sl 1 (now.map .str)), (17, .int .i64 (p2 + 1)), (18, .int .i64 i), (19, .str (wasLine ls (p1 + i) ++ List.replicate j 32))], [.arr 27 2 [.agg [.int .i64 p1, .int .i64 p2]], .arr 27 2 [.agg [.int .i64 y1, .int .i64 y2]]])) (fun j => j = 0 ∨ ((wasLine ls (p1 + i)).length : Int) + j ≤ p2 + 1) (fun j => (p2 + 1 - (wasLine ls (p1 + i)).length).toNat - j) 0 (by omega) ?_ ?_
        · simp (maxSteps := 4000000) only [Pg.look, true_and, and_true, subA, subQ, ptrsE, pairsO, frzO, subF, subG, pickOf, assocN, pairsE, pairsC, pairsL, pairs0, frzE, frzC, frzL, frz0, frzH, Pg.freeze, List.foldl_nil, subOs, subO, subEv, subV_succ, subM, List.getElem?_cons_succ, List.getElem?_cons_zero, reduceCtorEq, Nat.reduceEqDiff, List.nil_append, List.append_nil, List.cons_append, Nat.zero_add, ite_true, ite_false, and_self, Nat.lt_irrefl, Nat.not_lt_zero]
          exact ⟨rfl, ⟨subX_eq rfl rfl, subX_eq rfl rfl⟩, by rw [hwas]; exact (List.append_nil _).symm⟩
        intro j hj
        by_cases hlt2 : (((wasLine ls (p1 + i)).length + j : Nat) : Int) < p2 + 1
        · have hct2 : decide ((((wasLine ls (p1 + i)).length + j : Nat) : Int) < p2 + 1) = true := decide_eq_true hlt2
          simp (maxSteps := 4000000) only [↓wpA_H, ↓wpH_skip, ↓wpH_seq, ↓wpH_cond, ↓wpH_block, ↓wpH_region, ↓iselH_true, bselH_false, runH_nil, runH_cons, gw, gselH_plain, cselH_bool, ↓chk, justK, ↓oneK, ↓pureK, ↓thenA_normal, ↓blockA_normal, ↓stepEv, opnd, Pg.look, binK, intOp, strOp, Bool.false_eq_true, implies_true, true_and, and_true, valV, heapV, footV, binV, intV, strV, ofV, ofLeaf, subA, subQ, ptrsE, pairsO, frzO, subF, subG, pickOf, assocN, pairsE, pairsC, pairsL, pairs0, frzE, frzC, frzL, frz0, frzH, Pg.freeze, List.foldl_nil, subOs, subO, subEv, subV_succ, subM, List.getElem?_cons_succ, List.getElem?_cons_zero, reduceCtorEq, Nat.reduceEqDiff, List.nil_append, List.append_nil, List.cons_append, List.length_cons, List.length_nil, Nat.zero_add, ite_true, ite_false, and_self, List.length_append, List.contains_nil, Nat.reduceLeDiff, Nat.lt_irrefl, Nat.not_lt_zero, tk9, kPKnown, kText, kSPlace, kPDo, kApply, kPClamp, aPos, aCh, List.length_replicate, hct2]
          exact ⟨by omega, j + 1, by omega, by omega, rfl, ⟨subX_eq rfl rfl, subX_eq rfl rfl⟩, by rw [List.append_assoc, ← List.replicate_succ']⟩
        · have hws := wide_step (wasLine ls (p1 + i)) (p2 + 1) j (by omega) hj
          have hwl2 : (wasLine ls (p1 + i)).length + j = (wide (wasLine ls (p1 + i)) (p2 + 1)).length := by rw [← hws, List.length_append, List.length_replicate]
          have hcf2 : decide (((wide (wasLine ls (p1 + i)) (p2 + 1)).length : Int) < p2 + 1) = false := by rw [← hwl2]; exact decide_eq_false hlt2
          simp (maxSteps := 4000000) only [↓wpA_H, ↓wpH_skip, ↓wpH_ret, ↓wpH_exit, ↓wpH_seq, ↓wpH_cond, ↓wpH_region, ↓iselH_false, bselH_false, runH_nil, runH_cons, gw, gselH_plain, cselH_bool, ↓chk, justK, noW, ↓oneK, ↓pureK, ↓heapK, ↓thenA_normal, ↓thenA_exit, ↓blockA_normal, ↓blockA_exit, ↓stepEv, opnd, Pg.look, binK, intOp, strOp, cellsEq, leafEq, Bool.and_true, Bool.not_true, Bool.false_eq_true, false_implies, implies_true, true_and, and_true, valV, heapV, footV, binV, intV, strV, cutV, ofV, ofLeaf, retA, resK, tupA, subA, subQ, ptrsE, pairsO, frzO, subF, subG, pickOf, assocN, pairsE, pairsC, pairsL, pairs0, frzE, frzC, frzL, frz0, frzH, Pg.freeze, List.foldl_nil, subOs, subO, subEv, subV_succ, subM, ldCells, objAt, sliceS, ↓callT, callC, callV, callH, normArgs, normA, normC, resL, res8_eq, res_succ, resM, shiftR, shift1, AV.cells, TK.cells, AV.definite, lay, buildL, List.getElem?_cons_succ, List.getElem?_cons_zero, Option.map_some, Option.map_none, Option.getD_some, reduceCtorEq, Nat.reduceEqDiff, Nat.reduceAdd, List.nil_append, List.append_nil, List.cons_append, List.length_cons, List.length_nil, List.map_cons, List.map_nil, Nat.zero_add, ite_true, ite_false, Option.some.injEq, Option.isSome_some, AV.agg.injEq, Prod.mk.injEq, List.all_cons, List.all_nil, Bool.and_self, and_self, exists_eq_left', pickOK_nil, List.length_map, cInt_dec, cBool_dec, List.length_append, cSl_dec, cAgg_dec, lOne_dec, lCons_dec, dec2_some, List.contains_nil, beq_self_eq_true, List.range'_zero, decL_str, C1by_ns, C1by_pre, C1by_r, C1by_H, optP_some, optV_some, optH_some, getD_str, Int.toNat_natCast, List.getD_cons_zero, cutL, List.drop_zero, List.drop_succ_cons, List.take_succ_cons, List.take_zero, Nat.add_zero, Nat.sub_zero, Nat.reduceLeDiff, Nat.le_refl, Nat.lt_irrefl, List.drop_nil, List.take_nil, Nat.not_lt_zero, Nat.zero_lt_succ, tk3, tk9, dz9, tk22, tk27, tz27, dz27, eq27, kPKnown, kText, kSPlace, kPDo, kApply, kPClamp, aPos, aCh, hcf2, w3, hws, hgi]
          exact ⟨⟨by omega, by omega⟩, ⟨by omega, by omega⟩, ⟨by omega, hlt⟩, by rw [List.length_take]; omega, ⟨by omega, by omega⟩, by rw [List.length_take, List.length_drop]; omega, i + 1, by omega, by omega, rfl, ⟨subX_eq rfl rfl, subX_eq rfl rfl⟩, by rw [wrap64 (by omega) (by omega)]; rfl⟩
      | false =>
        have hA := of_decide_eq_false hA2
        rw [if_neg hA] at hwas
        simp (maxSteps := 4000000) only [↓wpA_H, ↓wpH_skip, ↓wpH_seq, ↓wpH_cond, ↓wpH_block, ↓wpH_loop, ↓wpH_region, ↓iselH_true, ↓iselH_false, bselH_false, runH_nil, runH_cons, gw, gselH_plain, cselH_bool, ↓chk, justK, noW, ↓oneK, ↓pureK, ↓heapK, ↓thenA_normal, ↓stepEv, opnd, Pg.look, binK, intOp, Bool.false_eq_true, implies_true, true_and, and_true, valV, heapV, footV, binV, intV, ofV, ofLeaf, slen, ldCells, objAt, AV.cells, TK.cells, List.getElem?_cons_zero, Option.getD_some, reduceCtorEq, Nat.reduceEqDiff, List.length_cons, List.length_nil, Nat.zero_add, ite_true, ite_false, Option.some.injEq, AV.int.injEq, and_self, exists_eq_left', List.length_map, List.contains_nil, List.getD_cons_zero, Nat.add_zero, Nat.zero_lt_succ, tk3, tk22, tk27, dz27, kPKnown, kText, kSPlace, kPDo, kApply, kPClamp, aPos, aCh, hct, w3, hA2]
        refine loopH_intro (α := Nat) (fun j => ([(0, .sl 1 (ls.map .str)), (1, .sl 1 (L.map .str)), (11, .ptr 0 2 1 0 0), (13, .ptr 1 2 1 0 0), (15, .sl 1 (now.map .str)), (17, .int .i64 (p2 + 1)), (18, .int .i64 i), (19, .str (wasLine ls (p1 + i) ++ List.replicate j 32))], [.arr 27 2 [.agg [.int .i64 p1, .int .i64 p2]], .arr 27 2 [.agg [.int .i64 y1, .int .i64 y2]]])) (fun j => j = 0 ∨ ((wasLine ls (p1 + i)).length : Int) + j ≤ p2 + 1) (fun j => (p2 + 1 - (wasLine ls (p1 + i)).length).toNat - j) 0 (by omega) ?_ ?_
        · simp (maxSteps := 4000000) only [Pg.look, true_and, and_true, subA, subQ, ptrsE, pairsO, frzO, subF, subG, pickOf, assocN, pairsE, pairsC, pairsL, pairs0, frzE, frzC, frzL, frz0, frzH, Pg.freeze, List.foldl_nil, subOs, subO, subEv, subV_succ, subM, List.getElem?_cons_succ, List.getElem?_cons_zero, reduceCtorEq, Nat.reduceEqDiff, List.nil_append, List.append_nil, List.cons_append, Nat.zero_add, ite_true, ite_false, and_self, Nat.lt_irrefl, Nat.not_lt_zero]
          exact ⟨rfl, ⟨subX_eq rfl rfl, subX_eq rfl rfl⟩, by rw [hwas]; exact (List.append_nil _).symm⟩
        intro j hj
        by_cases hlt2 : (((wasLine ls (p1 + i)).length + j : Nat) : Int) < p2 + 1
        · have hct2 : decide ((((wasLine ls (p1 + i)).length + j : Nat) : Int) < p2 + 1) = true := decide_eq_true hlt2
          simp (maxSteps := 4000000) only [↓wpA_H, ↓wpH_skip, ↓wpH_seq, ↓wpH_cond, ↓wpH_block, ↓wpH_region, ↓iselH_true, bselH_false, runH_nil, runH_cons, gw, gselH_plain, cselH_bool, ↓chk, justK, ↓oneK, ↓pureK, ↓thenA_normal, ↓blockA_normal, ↓stepEv, opnd, Pg.look, binK, intOp, strOp, Bool.false_eq_true, implies_true, true_and, and_true, valV, heapV, footV, binV, intV, strV, ofV, ofLeaf, subA, subQ, ptrsE, pairsO, frzO, subF, subG, pickOf, assocN, pairsE, pairsC, pairsL, pairs0, frzE, frzC, frzL, frz0, frzH, Pg.freeze, List.foldl_nil, subOs, subO, subEv, subV_succ, subM, List.getElem?_cons_succ, List.getElem?_cons_zero, reduceCtorEq, Nat.reduceEqDiff, List.nil_append, List.append_nil, List.cons_append, List.length_cons, List.length_nil, Nat.zero_add, ite_true, ite_false, and_self, List.length_append, List.contains_nil, Nat.reduceLeDiff, Nat.lt_irrefl, Nat.not_lt_zero, tk9, kPKnown, kText, kSPlace, kPDo, kApply, kPClamp, aPos, aCh, List.length_replicate, hct2]
          exact ⟨by omega, j + 1, by omega, by omega, rfl, ⟨subX_eq rfl rfl, subX_eq rfl rfl⟩, by rw [List.append_assoc, ← List.replicate_succ']⟩
        · have hws := wide_step (wasLine ls (p1 + i)) (p2 + 1) j (by omega) hj
          have hwl2 : (wasLine ls (p1 + i)).length + j = (wide (wasLine ls (p1 + i)) (p2 + 1)).length := by rw [← hws, List.length_append, List.length_replicate]
          have hcf2 : decide (((wide (wasLine ls (p1 + i)) (p2 + 1)).length : Int) < p2 + 1) = false := by rw [← hwl2]; exact decide_eq_false hlt2
          simp (maxSteps := 4000000) only [↓wpA_H, ↓wpH_skip, ↓wpH_ret, ↓wpH_exit, ↓wpH_seq, ↓wpH_cond, ↓wpH_region, ↓iselH_false, bselH_false, runH_nil, runH_cons, gw, gselH_plain, cselH_bool, ↓chk, justK, noW, ↓oneK, ↓pureK, ↓heapK, ↓thenA_normal, ↓thenA_exit, ↓blockA_normal, ↓blockA_exit, ↓stepEv, opnd, Pg.look, binK, intOp, strOp, cellsEq, leafEq, Bool.and_true, Bool.not_true, Bool.false_eq_true, false_implies, implies_true, true_and, and_true, valV, heapV, footV, binV, intV, strV, cutV, ofV, ofLeaf, retA, resK, tupA, subA, subQ, ptrsE, pairsO, frzO, subF, subG, pickOf, assocN, pairsE, pairsC, pairsL, pairs0, frzE, frzC, frzL, frz0, frzH, Pg.freeze, List.foldl_nil, subOs, subO, subEv, subV_succ, subM, ldCells, objAt, sliceS, ↓callT, callC, callV, callH, normArgs, normA, normC, resL, res8_eq, res_succ, resM, shiftR, shift1, AV.cells, TK.cells, AV.definite, lay, buildL, List.getElem?_cons_succ, List.getElem?_cons_zero, Option.map_some, Option.map_none, Option.getD_some, reduceCtorEq, Nat.reduceEqDiff, Nat.reduceAdd, List.nil_append, List.append_nil, List.cons_append, List.length_cons, List.length_nil, List.map_cons, List.map_nil, Nat.zero_add, ite_true, ite_false, Option.some.injEq, Option.isSome_some, AV.agg.injEq, Prod.mk.injEq, List.all_cons, List.all_nil, Bool.and_self, and_self, exists_eq_left', pickOK_nil, List.length_map, cInt_dec, cBool_dec, List.length_append, cSl_dec, cAgg_dec, lOne_dec, lCons_dec, dec2_some, List.contains_nil, beq_self_eq_true, List.range'_zero, decL_str, C1by_ns, C1by_pre, C1by_r, C1by_H, optP_some, optV_some, optH_some, getD_str, Int.toNat_natCast, List.getD_cons_zero, cutL, List.drop_zero, List.drop_succ_cons, List.take_succ_cons, List.take_zero, Nat.add_zero, Nat.sub_zero, Nat.reduceLeDiff, Nat.le_refl, Nat.lt_irrefl, List.drop_nil, List.take_nil, Nat.not_lt_zero, Nat.zero_lt_succ, tk3, tk9, dz9, tk22, tk27, tz27, dz27, eq27, kPKnown, kText, kSPlace, kPDo, kApply, kPClamp, aPos, aCh, hcf2, w3, hws, hgi]
          exact ⟨⟨by omega, by omega⟩, ⟨by omega, by omega⟩, ⟨by omega, hlt⟩, by rw [List.length_take]; omega, ⟨by omega, by omega⟩, by rw [List.length_take, List.length_drop]; omega, i + 1, by omega, by omega, rfl, ⟨subX_eq rfl rfl, subX_eq rfl rfl⟩, by rw [wrap64 (by omega) (by omega)]; rfl⟩
    · have hcf : decide ((i : Int) < (L.length : Int)) = false := decide_eq_false (by omega)
      simp (maxSteps := 4000000) only [↓wpA_H, ↓wpH_ret, ↓wpH_exit, ↓wpH_seq, ↓wpH_cond, ↓wpH_region, ↓iselH_false, bselH_false, runH_nil, runH_cons, gw, gselH_plain, cselH_bool, ↓chk, justK, noW, ↓oneK, ↓pureK, ↓heapK, ↓thenA_normal, ↓thenA_exit, ↓blockA_exit, ↓stepEv, opnd, Pg.look, binK, intOp, cellsEq, leafEq, Bool.false_eq_true, false_implies, implies_true, true_and, and_true, valV, heapV, footV, binV, intV, ofV, ofLeaf, retA, resK, tupA, subA, subQ, ptrsE, frzO, subF, subG, pickOf, frzE, frzC, frz0, frzH, Pg.freeze, List.foldl_nil, subOs, subEv, subV_succ, subM, slen, ldCells, objAt, ↓callT, callC, callV, callH, normArgs, normA, normC, resL, res8_eq, res_succ, resM, shiftR, shift1, AV.cells, TK.cells, AV.definite, lay, buildL, List.getElem?_cons_succ, List.getElem?_cons_zero, Option.getD_some, reduceCtorEq, Nat.reduceEqDiff, Nat.reduceAdd, List.nil_append, List.append_nil, List.cons_append, List.length_cons, List.length_nil, List.map_cons, List.map_nil, Nat.zero_add, ite_true, ite_false, Option.some.injEq, Option.isSome_some, AV.int.injEq, AV.agg.injEq, Prod.mk.injEq, List.all_cons, List.all_nil, Bool.and_self, and_self, exists_eq_left', pickOK_nil, List.length_map, cInt_dec, cBool_dec, cSl_dec, cAgg_dec, lOne_dec, lCons_dec, dec2_some, List.contains_nil, beq_self_eq_true, List.range'_zero, decL_str, C1by_ns, C1by_pre, C1by_r, C1by_H, optP_some, optV_some, optH_some, List.getD_cons_zero, cutL, List.drop_zero, List.drop_succ_cons, List.take_succ_cons, List.take_zero, Nat.add_zero, Nat.sub_zero, Nat.reduceLeDiff, Nat.le_refl, List.drop_nil, List.take_nil, Nat.zero_lt_succ, tk3, tk22, tk27, tz27, dz27, eq27, kPKnown, kText, kSPlace, kPDo, kApply, kPClamp, aPos, aCh, hcf, q11]
      exact smn

end Go.Pg
