/- Lines that are put stand below, or above, as often as is asked, and the cursor is on the first of them. -/
import Derived.Test.YtombifgcpghkgaaPgFx9
import Derived.Test.YtombifgcpghkgaaPgFx8
namespace Go.Pg
open Go Go.Proofs

theorem apply1_ins (ls N : Ls) (a : Int) (h0 : 0 ≤ a) (h1 : a ≤ ls.length) (hN : 0 < N.length) : apply1 ls (a, [], N) = (ls.take a.toNat ++ N ++ ls.drop a.toNat, true) := by
  have e : apply1 ls (a, [], N) = _ := if_neg ?_
  · rw [e]; simp
  · intro h
    simp only [List.length_nil] at h
    have e0 : cutL ls a.toNat (a + ((0 : Nat) : Int)).toNat = [] := by
      unfold cutL
      rw [show (a + ((0 : Nat) : Int)).toNat - a.toNat = 0 by omega, List.take_zero]
    rw [e0] at h
    simp only [beq_self_eq_true, Bool.not_true, Bool.or_false, Bool.or_eq_true, decide_eq_true_eq, beq_iff_eq] at h
    omega

def lineAt (l : Int) (before : Bool) : Int := if before = true then l else l + 1

theorem put_lines (ls L : Ls) (p : Int × Int) (before : Bool) (n : Int) (hp : place ls p.1 p.2 = true) (hm : mayR (1, L) n = true) :
    let a := lineAt p.1 before
    let now := ls.take a.toNat ++ repL L n.toNat ++ ls.drop a.toNat
    0 ≤ a ∧ a ≤ ls.length ∧ 0 < L.length ∧ 1 ≤ n ∧
    atR ls p (1, L) before n = ((a, [], repL L n.toNat), (a, firstC (L.getD 0 [])), true) ∧ apply1 ls (a, [], repL L n.toNat) = (now, true) ∧
    putF ls p (1, L) before n = ((a, [], repL L n.toNat), (a, firstC (L.getD 0 [])), true) := by
  intro a now
  obtain ⟨⟨n1, n2⟩, l0, _, _⟩ := fine_may hm
  simp only at l0
  have hp' := hp
  rw [place_iff] at hp'
  obtain ⟨v1, v2, _, _⟩ := hp'
  have ha : 0 ≤ a ∧ a ≤ ls.length := by
    show 0 ≤ lineAt p.1 before ∧ lineAt p.1 before ≤ ls.length
    unfold lineAt
    split <;> omega
  have hrl := repL_length L n.toNat
  have hr0 : 0 < (repL L n.toNat).length := by rw [hrl]; exact Nat.mul_pos (by omega) l0
  have ea : atR ls p (1, L) before n = ((a, [], repL L n.toNat), (a, firstC (L.getD 0 [])), true) := by
    unfold atR
    rw [if_neg (show ¬ ((1 : Int) == 0) = true by decide), if_pos (show ((1 : Int) == 1) = true by decide)]
    rfl
  have ep := apply1_ins ls (repL L n.toNat) a ha.1 ha.2 hr0
  refine ⟨ha.1, ha.2, l0, n1, ea, ep, ?_⟩
  unfold putF
  rw [if_pos (by simp only [hp, hm, ea]; rfl), ea]
  simp only [ep]
  congr 2
  have hl : (ls.take a.toNat).length = a.toNat := by rw [List.length_take]; omega
  have hg : (ls.take a.toNat ++ repL L n.toNat ++ ls.drop a.toNat).getD a.toNat [] = L.getD 0 [] := by
    rw [List.getD_eq_getElem?_getD, List.append_assoc, List.getElem?_append_right (by omega), hl, Nat.sub_self, List.getElem?_append_left hr0, ← List.getD_eq_getElem?_getD, repL_first L _ l0 (by omega)]
  have hlen : a.toNat < (ls.take a.toNat ++ repL L n.toNat ++ ls.drop a.toNat).length := by
    rw [List.length_append, List.length_append, hl]; omega
  generalize ls.take a.toNat ++ repL L n.toNat ++ ls.drop a.toNat = nw at hg hlen
  unfold clampP
  rw [if_neg (by omega)]
  simp only [Bool.false_eq_true, if_false]
  rw [show min (max a 0) ((nw.length : Int) - 1) = a by omega, hg]
  obtain ⟨f1, f2⟩ := firstC_range (L.getD 0 [])
  congr 1
  omega

theorem repL_fits {L : Ls} {n b : Nat} (h : fits n b L) (m : Nat) : ∀ i, ((repL L m).getD i []).length ≤ b := by
  intro i
  rw [List.getD_eq_getElem?_getD]
  cases e : (repL L m)[i]? with
  | none => simp
  | some x => exact h.2 x (repL_mem L m x (List.mem_of_getElem? e))

theorem may_light {L : Ls} {k n : Int} (h : text L = true) (h1 : 1 ≤ n) (h2 : n ≤ 3) : mayR (k, L) n = true := by
  simp only [text, Bool.and_eq_true, decide_eq_true_eq] at h
  have a1 := size_text h.2
  have hq : 1240 ≤ 4096 / n := by rw [Int.le_ediv_iff_mul_le (by omega)]; omega
  unfold mayR
  rw [light_any h.2, decide_eq_true h1, decide_eq_true (show n ≤ 9999 by omega), decide_eq_true (show 0 < L.length from h.1), decide_eq_true (show size L ≤ 4096 / n by omega)]
  rfl

set_option maxRecDepth 20000 in
set_option maxHeartbeats 4000000 in
theorem calls_PutLines (ls L : Ls) (a b n : Int) (before : Bool) (hs : ∀ i, (ls.getD i []).length ≤ 140737488355328) (hsL : ∀ i, (L.getD i []).length ≤ 140737488355328) (ha : 0 ≤ a ∧ a < 65536) (hb : 0 ≤ b ∧ b < 65536) (hn : 0 ≤ n ∧ n < 256) :
    CallsR Try.prog 8 [.sl 1 (ls.map .str), .sl 1 (L.map .str), .int .u16 a, .int .u16 b, .bool before, .int .u8 n] [] (.bool true) [] := by
  refine callsR_of (mrg := false) (dyn := []) (CtrOK.cons ok_pknown (CtrOK.cons ok_Text (CtrOK.cons ok_SPlace (CtrOK.cons ok_PDo (CtrOK.cons ok_Apply (CtrOK.cons ok_RSize (CtrOK.cons ok_Strings (CtrOK.cons ok_RFirst (CtrOK.nil _))))))))) mixed Try.func8 rfl (by simp [Try.ntmps8]) (by kernel_rfl) ?_
  rw [show Try.f8.results.toList = [.tmp 12] from by kernel_rfl]
  cases ht : Pg.text ls with
  | false =>
    simp (maxSteps := 4000000) only [↓wpA_H, ↓wpH_skip, ↓wpH_ret, ↓wpH_seq, ↓wpH_cond, ↓wpH_region, ↓iselH_true, ↓iselH_false, bselH_false, runH_nil, runH_cons, ↓fixG, setG, gw, gselH_plain, gselH_if, kselH_2, cselH_bool, gkind, ↓chk, justK, ↓oneK, ↓pureK, envOf, ↓thenA_normal, ↓thenA_ret, ↓stepEv, opnd, Pg.look, dstOf, Bool.and_true, Bool.not_false, Bool.not_true, Bool.false_eq_true, Bool.true_eq_false, false_implies, implies_true, imp_self, true_and, and_true, pickC, pickV, unc, gof, mux, valV, heapV, footV, mergeable, ofV, ofLeaf, retA, resK, tupA, subA, subQ, ptrsE, frzO, subF, subG, pickOf, frzE, frzC, frz0, frzH, Pg.freeze, List.foldl_nil, subOs, subEv, subV_succ, subM, ↓callT, callC, callV, callH, normArgs, normA, normC, resL, res8_eq, res_succ, resM, shiftR, shift1, List.getElem?_toArray, List.getElem?_cons_succ, List.getElem?_cons_zero, Option.bind_some, reduceCtorEq, Nat.reduceEqDiff, Nat.reduceAdd, List.nil_append, List.append_nil, List.length_nil, List.map_cons, List.map_nil, Nat.zero_add, ite_true, ite_false, Prod.mk.injEq, and_self, pickOK_nil, cSl_dec, lNil_dec, lOne_dec, List.contains_nil, List.range'_zero, decL_str, C1by_ns, C1by_pre, C1by_r, C1by_H, optP_some, optV_some, optH_some, kPKnown, kText, ht]
    exact hs
  | true =>
  cases ht2 : Pg.text L with
  | false =>
    simp (maxSteps := 4000000) only [↓wpA_H, ↓wpH_skip, ↓wpH_ret, ↓wpH_seq, ↓wpH_cond, ↓wpH_region, ↓iselH_true, ↓iselH_false, bselH_false, runH_nil, runH_cons, ↓fixG, setG, gw, gselH_plain, gselH_if, kselH_2, cselH_bool, gkind, ↓chk, justK, ↓oneK, ↓pureK, envOf, ↓thenA_normal, ↓thenA_ret, ↓stepEv, opnd, Pg.look, dstOf, Bool.and_true, Bool.not_false, Bool.not_true, Bool.false_eq_true, Bool.true_eq_false, false_implies, implies_true, imp_self, true_and, and_true, pickC, pickV, unc, gof, mux, valV, heapV, footV, mergeable, ofV, ofLeaf, retA, resK, tupA, subA, subQ, ptrsE, frzO, subF, subG, pickOf, frzE, frzC, frz0, frzH, Pg.freeze, List.foldl_nil, subOs, subEv, subV_succ, subM, ↓callT, callC, callV, callH, normArgs, normA, normC, resL, res8_eq, res_succ, resM, shiftR, shift1, List.getElem?_toArray, List.getElem?_cons_succ, List.getElem?_cons_zero, Option.bind_some, reduceCtorEq, Nat.reduceEqDiff, Nat.reduceAdd, List.nil_append, List.append_nil, List.length_nil, List.map_cons, List.map_nil, Nat.zero_add, ite_true, ite_false, Prod.mk.injEq, and_self, pickOK_nil, cSl_dec, lNil_dec, lOne_dec, List.contains_nil, List.range'_zero, decL_str, C1by_ns, C1by_pre, C1by_r, C1by_H, optP_some, optV_some, optH_some, kPKnown, kText, ht, ht2]
    exact ⟨hs, hsL⟩
  | true =>
  by_cases h8 : L.length ≤ 8
  case neg =>
    have d8 : decide ((L.length : Int) > 8) = true := decide_eq_true (by omega)
    simp (maxSteps := 4000000) only [↓wpA_H, ↓wpH_skip, ↓wpH_ret, ↓wpH_seq, ↓wpH_cond, ↓wpH_region, ↓iselH_true, ↓iselH_false, bselH_false, runH_nil, runH_cons, ↓fixG, setG, gw, gselH_plain, gselH_if, kselH_2, cselH_bool, gkind, ↓chk, justK, ↓oneK, ↓pureK, envOf, ↓thenA_normal, ↓thenA_ret, ↓stepEv, opnd, Pg.look, binK, intOp, dstOf, Bool.and_true, Bool.not_false, Bool.not_true, Bool.false_eq_true, false_implies, implies_true, imp_self, true_and, and_true, pickC, pickV, unc, gof, mux, valV, heapV, footV, binV, intV, mergeable, ofV, ofLeaf, retA, resK, tupA, subA, subQ, ptrsE, frzO, subF, subG, pickOf, frzE, frzC, frz0, frzH, Pg.freeze, List.foldl_nil, subOs, subEv, subV_succ, subM, slen, ↓callT, callC, callV, callH, normArgs, normA, normC, resL, res8_eq, res_succ, resM, shiftR, shift1, List.getElem?_toArray, List.getElem?_cons_succ, List.getElem?_cons_zero, Option.bind_some, Option.getD_some, reduceCtorEq, Nat.reduceEqDiff, Nat.reduceAdd, List.nil_append, List.append_nil, List.length_nil, List.map_cons, List.map_nil, Nat.zero_add, ite_true, ite_false, Option.some.injEq, AV.int.injEq, Prod.mk.injEq, and_self, exists_eq_left', pickOK_nil, List.length_map, cSl_dec, lNil_dec, lOne_dec, List.contains_nil, List.range'_zero, decL_str, C1by_ns, C1by_pre, C1by_r, C1by_H, optP_some, optV_some, optH_some, tk22, kPKnown, kText, ht, ht2, d8]
    exact ⟨hs, hsL⟩
  have d8 : decide ((L.length : Int) > 8) = false := decide_eq_false (by omega)
  have hft := fits_text ht
  have hfL := fits_text ht2
  obtain ⟨hl0, hl1, hl2⟩ := few_of_text ht
  obtain ⟨kl0, kl1, kl2⟩ := few_of_text ht2
  have hsm : small ls := fits_small hft (by omega) (by omega)
  have hp := splace_place ls a b hl0 hb.1
  generalize hq : splace ls a b = p at hp
  have m2 : n.tmod 3 = n % 3 := Int.tmod_eq_emod_of_nonneg hn.1
  have w3 : IntKind.u8.wrap (n % 3) = n % 3 := by rw [IntKind.wrap_u8]; omega
  have w4 : IntKind.i64.wrap (n % 3) = n % 3 := wrap64 (by omega) (by omega)
  have w5 : IntKind.i64.wrap (n % 3 + 1) = n % 3 + 1 := wrap64 (by omega) (by omega)
  have k1 : 1 ≤ n % 3 + 1 ∧ n % 3 + 1 ≤ 3 := by omega
  generalize n % 3 = k0 at w3 w4 w5 k1 m2
  have hm : mayR (1, L) (k0 + 1) = true := may_light ht2 k1.1 k1.2
  obtain ⟨q1, q2, q3, q4, q5, q6, q7⟩ := put_lines ls L p before (k0 + 1) hp hm
  obtain ⟨p1, p2⟩ := p
  have hp' := hp
  rw [place_iff] at hp'
  simp only at hp' hp
  obtain ⟨v1, v2, v3, v4⟩ := hp'
  have hat : lineAt p1 before = if before = true then p1 else p1 + 1 := rfl
  simp only at q1 q2 q5 q6 q7
  generalize hA : lineAt p1 before = A at q1 q2 q5 q6 q7 hat
  have w6 : IntKind.i64.wrap (p1 + 1) = p1 + 1 := wrap64 (by omega) (by omega)
  have w7 : IntKind.i64.wrap (p1 + 1 - 1) = p1 := by rw [wrap64 (by omega) (by omega)]; omega
  have hRl := repL_length L (k0 + 1).toNat
  have hmul : (k0 + 1).toNat * L.length ≤ 3 * 8 := Nat.mul_le_mul (by omega) h8
  have hRf := repL_fits hfL (k0 + 1).toNat
  obtain ⟨R, hR⟩ : ∃ R, repL L (k0 + 1).toNat = R := ⟨_, rfl⟩
  have hnow : ls.take A.toNat ++ R ++ ls.drop A.toNat = ls.take A.toNat ++ R ++ ls.drop A.toNat := rfl
  rw [hR] at q5 q6 q7 hRl hRf
  obtain ⟨now, hN⟩ : ∃ now, ls.take A.toNat ++ R ++ ls.drop A.toNat = now := ⟨_, rfl⟩
  rw [hN] at q6
  have hnl : now.length ≤ 100 := by rw [← hN]; simp only [List.length_append, List.length_take, List.length_drop]; omega
  have ap1 : applyL ls [(A, [], R)] = (now, true) := by rw [applyL1, q6]; rfl
  have m1 : ∀ x : Ch, x ∈ [(A, ([] : Ls), R)] → x.2.1.length ≤ 1048576 ∧ x.2.2.length ≤ 1048576 := fun x hx => by
    obtain rfl := List.mem_singleton.1 hx
    exact ⟨by show 0 ≤ _; omega, by show R.length ≤ _; omega⟩
  have smn : small now := ⟨by omega, fun i => by
    rw [List.getD_eq_getElem?_getD]
    cases e : now[i]? with
    | none => simp
    | some x =>
      show x.length ≤ _
      have hx := List.mem_of_getElem? e
      rw [← hN] at hx
      simp only [List.mem_append] at hx
      rcases hx with (hx | hx) | hx
      · have := hft.2 x (List.mem_of_mem_take hx); omega
      · rw [← hR] at hx
        have := hfL.2 x (repL_mem L _ x hx); omega
      · have := hft.2 x (List.mem_of_mem_drop hx); omega⟩
  have fL : few L := ⟨by omega, fun i => by have := kl2 i; omega⟩
  have lls : ∀ i, (ls.getD i []).length ≤ 1099511627775 := fun i => by have := hl2 i; omega
  have hpre : place ls p1 p2 = true → mayR (1, L) (k0 + 1) = true → (atR ls (p1, p2) (1, L) before (k0 + 1)).2.2 = true →
      small (apply1 ls (atR ls (p1, p2) (1, L) before (k0 + 1)).1).1 ∧ (atR ls (p1, p2) (1, L) before (k0 + 1)).1.2.1.length ≤ 1099511627 ∧ (atR ls (p1, p2) (1, L) before (k0 + 1)).1.2.2.length ≤ 1099511627 := fun _ _ _ => by
    rw [q5]
    simp only [q6]
    exact ⟨smn, by show 0 ≤ _; omega, by show R.length ≤ _; omega⟩
  have L0 := kl2 0
  cases before with
  | true =>
    rw [if_pos rfl] at hat
    subst hat
    simp (maxSteps := 4000000) only [↓wpA_H, ↓wpH_skip, ↓wpH_seq, ↓wpH_cond, ↓wpH_block, ↓wpH_loop, ↓wpH_region, ↓iselH_true, ↓iselH_false, bselH_false, runH_nil, runH_cons, ↓fixG, setG, gw, gselH_plain, gselH_if, kselH_2, cselH_bool, gkind, ↓chk, justK, noW, ↓oneK, ↓pureK, ↓heapK, envOf, ↓thenA_normal, ↓stepEv, opnd, Pg.look, binK, intOp, dstOf, Bool.and_true, Bool.not_false, Bool.not_true, Bool.false_eq_true, false_implies, implies_true, true_and, and_true, pickC, pickV, unc, gof, mux, valV, heapV, footV, binV, intV, cutV, mergeable, ofV, ofLeaf, Pg.freeze, List.foldl_nil, List.foldl_cons, slen, srcV, srcE, appK, ldCells, objAt, sliceL, ↓callT, callC, callV, callH, normArgs, normA, normC, normL, normE, resL, res8_eq, res_succ, resM, shiftR, shift1, AV.cells, TK.cells, AV.definite, AV.leaf, AV.leafy, AV.pureLeaf, AV.pureB, putCells, lay, buildL, frzAt, List.getElem?_toArray, List.getElem?_cons_succ, List.getElem?_cons_zero, Option.bind_some, Option.map_some, Option.map_none, Option.getD_some, reduceCtorEq, Nat.reduceEqDiff, Nat.reduceAdd, List.nil_append, List.append_nil, List.cons_append, List.length_cons, List.length_nil, List.map_cons, List.map_nil, List.set_cons_zero, List.set_cons_succ, Nat.zero_add, ite_true, ite_false, Option.some.injEq, Option.isSome_some, AV.int.injEq, AV.agg.injEq, Prod.mk.injEq, ne_eq, not_false_eq_true, List.all_cons, List.all_nil, Bool.and_self, and_self, exists_eq_left', List.length_map, cInt_dec, cBool_dec, rg1, cSl_dec, cAgg_dec, lNil_dec, lOne_dec, lCons_dec, dec2_some, List.contains_nil, beq_self_eq_true, decL_nil, decL_cons, consO_some, List.range'_zero, Nat.reducePow, decL_str, C1by_ns, C1by_pre, C1by_r, C1by_H, optP_some, optV_some, optH_some, ← List.map_take, List.getD_cons_zero, cutL, List.drop_zero, List.drop_succ_cons, List.take_succ_cons, List.take_zero, Nat.add_zero, Nat.sub_zero, Nat.reduceLeDiff, Nat.le_refl, Nat.one_mul, List.drop_nil, List.take_nil, Nat.zero_lt_succ, tk3, tk5, eb9, tk22, tk27, tz27, dz27, tk32, tz32, tk35, tz35, dz35, eb35, tk40, kPKnown, kText, kSPlace, kPDo, kApply, kRSize, kStrings, kFirst, aPos, aCh, ht, ht2, d8, hq, m2, w4, w5, w6, w7, q7, ap1]
    refine ⟨hs, hsL, ⟨hl0, hsm, ha, hb⟩, by decide, ⟨hsm, by omega, lls, fL, hpre⟩, ⟨by omega, m1⟩, ⟨q1, q2⟩, by rw [List.length_take]; omega, ?_⟩
    have hT : (ls.take A.toNat).length ≤ 40 := by rw [List.length_take]; omega
    have hD : (ls.drop A.toNat).length ≤ 40 := by rw [List.length_drop]; omega
    have hLm : ∀ i : Nat, (i : Int) ≤ k0 + 1 → i * L.length ≤ 3 * 8 := fun i hi => Nat.mul_le_mul (by omega) h8
    have hlen : ∀ i : Nat, (ls.take A.toNat ++ repL L i).length = (ls.take A.toNat).length + i * L.length := fun i => by rw [List.length_append, repL_length]
    refine loopH_intro (α := Nat) (fun i => ([(0, .sl 1 (ls.map .str)), (1, .sl 1 (L.map .str)), (14, .int .i64 (k0 + 1)), (16, .ptr 0 2 1 0 0), (18, .sl 1 (now.map .str)), (20, .int .i64 A), (21, .own 1 1 (ls.take A.toNat ++ repL L i).length), (22, .int .i64 i)], [.arr 27 2 [.agg [.int .i64 A, .int .i64 (firstC (L.getD 0 []))]], .arr 9 1 ((ls.take A.toNat ++ repL L i).map .str)]))
      (fun i => (i : Int) ≤ k0 + 1) (fun i => (k0 + 1).toNat - i) 0 (by omega) ?_ ?_
    · simp (maxSteps := 4000000) only [Pg.look, true_and, and_true, subA, subQ, ptrsE, pairsO, frzO, subF, subG, pickOf, assocN, pairsE, pairsC, pairsL, pairs0, frzE, frzC, frzL, frz0, frzH, Pg.freeze, List.foldl_nil, subOs, subO, subEv, subV_succ, subM, List.getElem?_cons_succ, List.getElem?_cons_zero, reduceCtorEq, Nat.reduceEqDiff, List.nil_append, List.append_nil, List.cons_append, Nat.zero_add, ite_true, ite_false, and_self, List.length_append, Int.cast_ofNat_Int, Nat.lt_irrefl, Nat.not_lt_zero]
      exact ⟨rfl, ⟨subX_eq rfl rfl, subX_eq (by simp [repL]) (pureB_strs _)⟩, by simp [repL]⟩
    intro i hi
    have hmi := hLm i hi
    have hli := hlen i
    by_cases hlt : (i : Int) < k0 + 1
    · have hct : decide ((i : Int) < k0 + 1) = true := decide_eq_true hlt
      simp (maxSteps := 4000000) only [↓wpA_H, ↓wpH_skip, ↓wpH_seq, ↓wpH_cond, ↓wpH_block, ↓wpH_region, ↓iselH_true, bselH_false, runH_nil, runH_cons, gw, gselH_plain, cselH_bool, ↓chk, justK, ↓oneK, ↓pureK, ↓heapK, ↓thenA_normal, ↓blockA_normal, ↓stepEv, opnd, Pg.look, binK, intOp, Bool.false_eq_true, implies_true, true_and, and_true, valV, heapV, footV, binV, intV, ofV, ofLeaf, subA, subQ, ptrsE, pairsO, frzO, subF, subG, pickOf, assocN, pairsE, pairsC, pairsL, pairs0, frzE, frzC, frzL, frz0, frzH, Pg.freeze, List.foldl_nil, subOs, subO, subEv, subV_succ, subM, srcV, srcE, appK, List.getElem?_cons_succ, List.getElem?_cons_zero, reduceCtorEq, Nat.reduceEqDiff, List.nil_append, List.append_nil, List.cons_append, List.set_cons_zero, List.set_cons_succ, Nat.zero_add, ite_true, ite_false, not_false_eq_true, and_self, List.length_map, List.length_append, not_mem_nil, app_strs, leafy_strs, List.contains_nil, Nat.lt_irrefl, Nat.not_lt_zero, eb9, tk22, kPKnown, kText, kSPlace, kPDo, kApply, kRSize, kStrings, kFirst, aPos, aCh, hct]
      exact ⟨by rw [← List.length_append, hli]; omega, i + 1, by omega, by omega, rfl, ⟨subX_eq rfl rfl, subX_eq (by rw [List.append_assoc]; rfl) (pureB_strs _)⟩, by simp only [repL, List.length_append]; omega, by rw [wrap64 (by omega) (by omega)]; rfl⟩
    · have hcf : decide ((i : Int) < k0 + 1) = false := decide_eq_false hlt
      have hik : (k0 + 1).toNat = i := by omega
      have hRi : repL L i = R := by rw [← hR, hik]
      rw [hRi] at hli ⊢
      have hX : (ls.take A.toNat).length + R.length + (ls.drop A.toNat).length = now.length := by rw [← hN]; simp only [List.length_append]
      simp (maxSteps := 4000000) only [↓wpA_H, ↓wpH_ret, ↓wpH_exit, ↓wpH_seq, ↓wpH_cond, ↓wpH_region, ↓iselH_true, ↓iselH_false, bselH_false, runH_nil, runH_cons, ↓fixG, setG, gw, gselH_plain, gselH_if, kselH_2, cselH_bool, gkind, ↓chk, justK, noW, ↓oneK, ↓pureK, ↓heapK, ↓thenA_normal, ↓thenA_exit, ↓blockA_exit, ↓stepEv, opnd, Pg.look, binK, intOp, cellsEq, leafEq, dstOf, Bool.and_true, Bool.not_true, Bool.false_eq_true, Bool.true_eq_false, false_implies, implies_true, true_and, and_true, pickC, pickV, unc, gof, mux, valV, heapV, footV, binV, intV, cutV, mergeable, ofV, ofLeaf, retA, resK, tupA, subA, subQ, ptrsE, frzO, subF, subG, pickOf, frzE, frzC, frz0, frzH, Pg.freeze, List.foldl_nil, List.foldl_cons, subOs, subEv, subV_succ, subM, srcV, srcE, appK, ldCells, objAt, sliceL, ↓callT, callC, callV, callH, normArgs, normA, normC, resL, res8_eq, res_succ, resM, shiftR, shift1, AV.cells, TK.cells, AV.definite, lay, buildL, frzAt, List.getElem?_toArray, List.getElem?_cons_succ, List.getElem?_cons_zero, Option.bind_some, Option.map_some, Option.map_none, Option.getD_some, reduceCtorEq, Nat.reduceEqDiff, Nat.reduceAdd, List.nil_append, List.append_nil, List.cons_append, List.length_cons, List.length_nil, List.map_cons, List.map_nil, List.set_cons_zero, List.set_cons_succ, Nat.zero_add, Int.reduceToNat, ite_true, ite_false, Option.some.injEq, Option.isSome_some, AV.agg.injEq, Prod.mk.injEq, not_false_eq_true, List.all_cons, List.all_nil, Bool.and_self, and_self, exists_eq_left', pickOK_nil, List.length_map, List.length_append, not_mem_nil, app_strs, Int.reduceLE, cStr_dec, cSl_dec, lOne_dec, lCons_dec, dec2_some, pureB_strs, leafy_strs, List.contains_nil, beq_self_eq_true, List.range'_zero, decL_str, C1by_ns, C1by_pre, C1by_r, C1by_H, optP_some, optV_some, optH_some, ← List.map_drop, getD_str, List.getD_cons_zero, cutL, List.drop_zero, List.drop_succ_cons, List.take_succ_cons, List.take_zero, Nat.sub_zero, Nat.reduceLeDiff, Nat.le_refl, List.drop_nil, List.take_nil, Nat.zero_lt_succ, tk9, dz9, eb9, tk22, tk27, tz27, dz27, eq27, kPKnown, kText, kSPlace, kPDo, kApply, kRSize, kStrings, kFirst, aPos, aCh, hcf, hN, hX]
      exact ⟨⟨q1, q2⟩, by omega, by omega, kl0, by omega⟩
  | false =>
    rw [if_neg (by decide)] at hat
    subst hat
    simp (maxSteps := 4000000) only [↓wpA_H, ↓wpH_skip, ↓wpH_seq, ↓wpH_cond, ↓wpH_block, ↓wpH_loop, ↓wpH_region, ↓iselH_true, ↓iselH_false, bselH_false, runH_nil, runH_cons, ↓fixG, setG, gw, gselH_plain, gselH_if, kselH_2, cselH_bool, gkind, ↓chk, justK, noW, ↓oneK, ↓pureK, ↓heapK, envOf, ↓thenA_normal, ↓stepEv, opnd, Pg.look, binK, intOp, dstOf, Bool.and_true, Bool.not_false, Bool.not_true, Bool.false_eq_true, false_implies, implies_true, true_and, and_true, pickC, pickV, unc, gof, mux, valV, heapV, footV, binV, intV, cutV, mergeable, ofV, ofLeaf, Pg.freeze, List.foldl_nil, List.foldl_cons, slen, srcV, srcE, appK, ldCells, objAt, sliceL, ↓callT, callC, callV, callH, normArgs, normA, normC, normL, normE, resL, res8_eq, res_succ, resM, shiftR, shift1, AV.cells, TK.cells, AV.definite, AV.leaf, AV.leafy, AV.pureLeaf, AV.pureB, putCells, lay, buildL, frzAt, List.getElem?_toArray, List.getElem?_cons_succ, List.getElem?_cons_zero, Option.bind_some, Option.map_some, Option.map_none, Option.getD_some, reduceCtorEq, Nat.reduceEqDiff, Nat.reduceAdd, List.nil_append, List.append_nil, List.cons_append, List.length_cons, List.length_nil, List.map_cons, List.map_nil, List.set_cons_zero, List.set_cons_succ, Nat.zero_add, ite_true, ite_false, Option.some.injEq, Option.isSome_some, AV.int.injEq, AV.agg.injEq, Prod.mk.injEq, ne_eq, not_false_eq_true, List.all_cons, List.all_nil, Bool.and_self, and_self, exists_eq_left', List.length_map, cInt_dec, cBool_dec, rg1, cSl_dec, cAgg_dec, lNil_dec, lOne_dec, lCons_dec, dec2_some, List.contains_nil, beq_self_eq_true, decL_nil, decL_cons, consO_some, List.range'_zero, Nat.reducePow, decL_str, C1by_ns, C1by_pre, C1by_r, C1by_H, optP_some, optV_some, optH_some, ← List.map_take, List.getD_cons_zero, cutL, List.drop_zero, List.drop_succ_cons, List.take_succ_cons, List.take_zero, Nat.add_zero, Nat.sub_zero, Nat.reduceLeDiff, Nat.le_refl, Nat.one_mul, List.drop_nil, List.take_nil, Nat.zero_lt_succ, tk3, tk5, eb9, tk22, tk27, tz27, dz27, tk32, tz32, tk35, tz35, dz35, eb35, tk40, kPKnown, kText, kSPlace, kPDo, kApply, kRSize, kStrings, kFirst, aPos, aCh, ht, ht2, d8, hq, m2, w4, w5, w6, q7, ap1]
    refine ⟨hs, hsL, ⟨hl0, hsm, ha, hb⟩, by decide, ⟨hsm, by omega, lls, fL, hpre⟩, ⟨by omega, m1⟩, ⟨q1, q2⟩, by rw [List.length_take]; omega, ?_⟩
    generalize p1 + 1 = A at q1 q2 hN ⊢
    have hT : (ls.take A.toNat).length ≤ 40 := by rw [List.length_take]; omega
    have hD : (ls.drop A.toNat).length ≤ 40 := by rw [List.length_drop]; omega
    have hLm : ∀ i : Nat, (i : Int) ≤ k0 + 1 → i * L.length ≤ 3 * 8 := fun i hi => Nat.mul_le_mul (by omega) h8
    have hlen : ∀ i : Nat, (ls.take A.toNat ++ repL L i).length = (ls.take A.toNat).length + i * L.length := fun i => by rw [List.length_append, repL_length]
    refine loopH_intro (α := Nat) (fun i => ([(0, .sl 1 (ls.map .str)), (1, .sl 1 (L.map .str)), (14, .int .i64 (k0 + 1)), (16, .ptr 0 2 1 0 0), (18, .sl 1 (now.map .str)), (20, .int .i64 A), (21, .own 1 1 (ls.take A.toNat ++ repL L i).length), (22, .int .i64 i)], [.arr 27 2 [.agg [.int .i64 A, .int .i64 (firstC (L.getD 0 []))]], .arr 9 1 ((ls.take A.toNat ++ repL L i).map .str)]))
      (fun i => (i : Int) ≤ k0 + 1) (fun i => (k0 + 1).toNat - i) 0 (by omega) ?_ ?_
    · simp (maxSteps := 4000000) only [Pg.look, true_and, and_true, subA, subQ, ptrsE, pairsO, frzO, subF, subG, pickOf, assocN, pairsE, pairsC, pairsL, pairs0, frzE, frzC, frzL, frz0, frzH, Pg.freeze, List.foldl_nil, subOs, subO, subEv, subV_succ, subM, List.getElem?_cons_succ, List.getElem?_cons_zero, reduceCtorEq, Nat.reduceEqDiff, List.nil_append, List.append_nil, List.cons_append, Nat.zero_add, ite_true, ite_false, and_self, List.length_append, Int.cast_ofNat_Int, Nat.lt_irrefl, Nat.not_lt_zero]
      exact ⟨rfl, ⟨subX_eq rfl rfl, subX_eq (by simp [repL]) (pureB_strs _)⟩, by simp [repL]⟩
    intro i hi
    have hmi := hLm i hi
    have hli := hlen i
    by_cases hlt : (i : Int) < k0 + 1
    · have hct : decide ((i : Int) < k0 + 1) = true := decide_eq_true hlt
      simp (maxSteps := 4000000) only [↓wpA_H, ↓wpH_skip, ↓wpH_seq, ↓wpH_cond, ↓wpH_block, ↓wpH_region, ↓iselH_true, bselH_false, runH_nil, runH_cons, gw, gselH_plain, cselH_bool, ↓chk, justK, ↓oneK, ↓pureK, ↓heapK, ↓thenA_normal, ↓blockA_normal, ↓stepEv, opnd, Pg.look, binK, intOp, Bool.false_eq_true, implies_true, true_and, and_true, valV, heapV, footV, binV, intV, ofV, ofLeaf, subA, subQ, ptrsE, pairsO, frzO, subF, subG, pickOf, assocN, pairsE, pairsC, pairsL, pairs0, frzE, frzC, frzL, frz0, frzH, Pg.freeze, List.foldl_nil, subOs, subO, subEv, subV_succ, subM, srcV, srcE, appK, List.getElem?_cons_succ, List.getElem?_cons_zero, reduceCtorEq, Nat.reduceEqDiff, List.nil_append, List.append_nil, List.cons_append, List.set_cons_zero, List.set_cons_succ, Nat.zero_add, ite_true, ite_false, not_false_eq_true, and_self, List.length_map, List.length_append, not_mem_nil, app_strs, leafy_strs, List.contains_nil, Nat.lt_irrefl, Nat.not_lt_zero, eb9, tk22, kPKnown, kText, kSPlace, kPDo, kApply, kRSize, kStrings, kFirst, aPos, aCh, hct]
      exact ⟨by rw [← List.length_append, hli]; omega, i + 1, by omega, by omega, rfl, ⟨subX_eq rfl rfl, subX_eq (by rw [List.append_assoc]; rfl) (pureB_strs _)⟩, by simp only [repL, List.length_append]; omega, by rw [wrap64 (by omega) (by omega)]; rfl⟩
    · have hcf : decide ((i : Int) < k0 + 1) = false := decide_eq_false hlt
      have hik : (k0 + 1).toNat = i := by omega
      have hRi : repL L i = R := by rw [← hR, hik]
      rw [hRi] at hli ⊢
      have hX : (ls.take A.toNat).length + R.length + (ls.drop A.toNat).length = now.length := by rw [← hN]; simp only [List.length_append]
      simp (maxSteps := 4000000) only [↓wpA_H, ↓wpH_ret, ↓wpH_exit, ↓wpH_seq, ↓wpH_cond, ↓wpH_region, ↓iselH_true, ↓iselH_false, bselH_false, runH_nil, runH_cons, ↓fixG, setG, gw, gselH_plain, gselH_if, kselH_2, cselH_bool, gkind, ↓chk, justK, noW, ↓oneK, ↓pureK, ↓heapK, ↓thenA_normal, ↓thenA_exit, ↓blockA_exit, ↓stepEv, opnd, Pg.look, binK, intOp, cellsEq, leafEq, dstOf, Bool.and_true, Bool.not_true, Bool.false_eq_true, Bool.true_eq_false, false_implies, implies_true, true_and, and_true, pickC, pickV, unc, gof, mux, valV, heapV, footV, binV, intV, cutV, mergeable, ofV, ofLeaf, retA, resK, tupA, subA, subQ, ptrsE, frzO, subF, subG, pickOf, frzE, frzC, frz0, frzH, Pg.freeze, List.foldl_nil, List.foldl_cons, subOs, subEv, subV_succ, subM, srcV, srcE, appK, ldCells, objAt, sliceL, ↓callT, callC, callV, callH, normArgs, normA, normC, resL, res8_eq, res_succ, resM, shiftR, shift1, AV.cells, TK.cells, AV.definite, lay, buildL, frzAt, List.getElem?_toArray, List.getElem?_cons_succ, List.getElem?_cons_zero, Option.bind_some, Option.map_some, Option.map_none, Option.getD_some, reduceCtorEq, Nat.reduceEqDiff, Nat.reduceAdd, List.nil_append, List.append_nil, List.cons_append, List.length_cons, List.length_nil, List.map_cons, List.map_nil, List.set_cons_zero, List.set_cons_succ, Nat.zero_add, Int.reduceToNat, ite_true, ite_false, Option.some.injEq, Option.isSome_some, AV.agg.injEq, Prod.mk.injEq, not_false_eq_true, List.all_cons, List.all_nil, Bool.and_self, and_self, exists_eq_left', pickOK_nil, List.length_map, List.length_append, not_mem_nil, app_strs, Int.reduceLE, cStr_dec, cSl_dec, lOne_dec, lCons_dec, dec2_some, pureB_strs, leafy_strs, List.contains_nil, beq_self_eq_true, List.range'_zero, decL_str, C1by_ns, C1by_pre, C1by_r, C1by_H, optP_some, optV_some, optH_some, ← List.map_drop, getD_str, List.getD_cons_zero, cutL, List.drop_zero, List.drop_succ_cons, List.take_succ_cons, List.take_zero, Nat.sub_zero, Nat.reduceLeDiff, Nat.le_refl, List.drop_nil, List.take_nil, Nat.zero_lt_succ, tk9, dz9, eb9, tk22, tk27, tz27, dz27, eq27, kPKnown, kText, kSPlace, kPDo, kApply, kRSize, kStrings, kFirst, aPos, aCh, hcf, hN, hX]
      exact ⟨⟨q1, q2⟩, by omega, by omega, kl0, by omega⟩
end Go.Pg
