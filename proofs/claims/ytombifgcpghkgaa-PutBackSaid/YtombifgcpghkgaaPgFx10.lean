/- What was cut, put ahead of where the cut began, makes the text what it was. -/
import Derived.Test.YtombifgcpghkgaaPgFx9
namespace Go.Pg
open Go Go.Proofs

theorem take_drop_at (A M C : Ls) (a : Nat) (hA : A.length = a) : (A ++ M ++ C).take a = A ∧ (A ++ M ++ C).drop (a + M.length) = C := by
  refine ⟨by rw [List.append_assoc, List.take_left' hA], ?_⟩
  have : (A ++ M).length = a + M.length := by rw [List.length_append, hA]
  rw [List.drop_left' this]

theorem put_back (ls : Ls) (r : Rg) (hf : fits 40 1200 ls) (hv : valid ls r = true) (hk : r.1 = 0 ∨ r.1 = 1 ∧ r.2.2.2.1 + 1 < ls.length) (c : Int) (hc : c = if r.1 = 1 then 0 else r.2.2.1) :
    ∃ (O N now : Ls) (y : Ch) (q : Int × Int), cut ls r = ((r.2.1, O, N), true) ∧ apply1 ls (r.2.1, O, N) = (now, true) ∧ O.length ≤ 40 ∧ N.length ≤ 40 ∧ fits 41 2400 now ∧ place now r.2.1 c = true ∧
      atR now (r.2.1, c) (r.1, rtext ls r) true 1 = (y, q, true) ∧ apply1 now y = (ls, true) ∧ y.2.1.length ≤ 40 ∧ y.2.2.length ≤ 40 := by
  obtain ⟨h0, h1, h2⟩ := valid_line hv
  have hl := hf.1
  have n1 := cutLs_length ls r.2.1 r.2.2.2.1 h0 h1 h2
  have n2 : (rtext ls r).length = (r.2.2.2.1 + 1 - r.2.1).toNat := by
    unfold rtext
    rw [if_pos hv, eachL_length]
  have lA : (ls.take r.2.1.toNat).length = r.2.1.toNat := by rw [List.length_take]; omega
  rcases hk with hk | ⟨hk, hlt⟩
  · rw [if_neg (by omega)] at hc
    subst hc
    obtain ⟨A, hA⟩ : ∃ A, (ls.getD r.2.1.toNat []).take r.2.2.1.toNat = A := ⟨_, rfl⟩
    obtain ⟨B, hB⟩ : ∃ B, (ls.getD r.2.2.2.1.toNat []).drop r.2.2.2.2.toNat = B := ⟨_, rfl⟩
    have hcb := char_back hv hk
    simp only [hA, hB] at hcb
    have hcut : cut ls r = ((r.2.1, cutL ls r.2.1.toNat (r.2.2.2.1 + 1).toNat, [A ++ B]), true) := by
      unfold cut
      rw [if_pos hv, if_pos (by rw [hk]; rfl), hA, hB]
    have ap := apply1_cut ls r.2.1 r.2.2.2.1 [A ++ B] h0 h1 h2 (.inl (by simp))
    have hlenA : A.length = r.2.2.1.toNat ∧ 0 ≤ r.2.2.1 ∧ A.length ≤ 1200 ∧ B.length ≤ 1200 := by
      have hv2 := hv
      have e1 := fits_getD hf r.2.1.toNat
      have e2 := fits_getD hf r.2.2.2.1.toNat
      obtain ⟨k, f1, f2, t1, t2⟩ := r
      simp only at hk
      subst hk
      simp only [valid, beq_self_eq_true, if_true, Bool.and_eq_true] at hv2
      obtain ⟨_, ⟨b1, b2⟩, _⟩ := hv2
      rw [place_iff] at b1 b2
      rw [← hA, ← hB, List.length_take, List.length_drop]
      exact ⟨by show min f2.toNat (ls.getD f1.toNat []).length = f2.toNat; omega, b1.2.2.1, by show min f2.toNat (ls.getD f1.toNat []).length ≤ 1200; exact Nat.le_trans (Nat.min_le_right _ _) e1, by show (ls.getD t1.toNat []).length - t2.toNat ≤ 1200; exact Nat.le_trans (Nat.sub_le _ _) e2⟩
    obtain ⟨la, la0, la1, lb1⟩ := hlenA
    have hcutM := cut_mid ls r.2.1.toNat (r.2.2.2.1 + 1).toNat (by omega)
    obtain ⟨now, hnow⟩ : ∃ now, ls.take r.2.1.toNat ++ [A ++ B] ++ ls.drop (r.2.2.2.1 + 1).toNat = now := ⟨_, rfl⟩
    obtain ⟨g1, g2⟩ := take_drop_at (ls.take r.2.1.toNat) [A ++ B] (ls.drop (r.2.2.2.1 + 1).toNat) r.2.1.toNat lA
    rw [hnow] at ap g1 g2
    have hnl : r.2.1.toNat < now.length := by rw [← hnow]; simp only [List.length_append, lA, List.length_cons, List.length_nil]; omega
    have hng : now.getD r.2.1.toNat [] = A ++ B := by
      rw [← hnow, List.getD_eq_getElem?_getD, List.append_assoc, List.getElem?_append_right (by omega), lA, Nat.sub_self]; rfl
    have hpl : place now r.2.1 r.2.2.1 = true := by
      rw [place_iff, hng, List.length_append]
      exact ⟨h0, hnl, la0, by omega⟩
    have hfn : fits 41 2400 now := by
      rw [← hnow]
      refine ⟨by simp only [List.length_append, List.length_take, List.length_drop, List.length_cons, List.length_nil]; omega, fun s hs => ?_⟩
      simp only [List.mem_append] at hs
      rcases hs with (hs | hs) | hs
      · have := hf.2 s (List.mem_of_mem_take hs); omega
      · obtain rfl := List.mem_singleton.1 hs
        rw [List.length_append]; omega
      · have := hf.2 s (List.mem_of_mem_drop hs); omega
    have hw : write now r.2.1 r.2.2.1 (rtext ls r) = ((r.2.1, [A ++ B], cutL ls r.2.1.toNat (r.2.2.2.1 + 1).toNat), (write now r.2.1 r.2.2.1 (rtext ls r)).2.1, true) := by
      unfold write
      rw [if_pos (by rw [hpl, decide_eq_true (by omega)]; rfl), hng]
      simp only [List.take_left' la, List.drop_left' la, hcb]
    have ea : atR now (r.2.1, r.2.2.1) (r.1, rtext ls r) true 1 = charsR now (r.2.1, r.2.2.1) (r.1, rtext ls r) 1 := by
      unfold atR
      rw [if_pos (by rw [hk]; rfl)]
      rfl
    have ec : charsR now (r.2.1, r.2.2.1) (r.1, rtext ls r) 1 = ((r.2.1, [A ++ B], cutL ls r.2.1.toNat (r.2.2.2.1 + 1).toNat), (charsR now (r.2.1, r.2.2.1) (r.1, rtext ls r) 1).2.1, true) := by
      have e0 : charsT (rtext ls r) (((1 : Int) - 1).toNat) = rtext ls r := rfl
      refine Prod.ext ?_ (Prod.ext rfl ?_)
      · show (write now r.2.1 r.2.2.1 (charsT (rtext ls r) (((1 : Int) - 1).toNat))).1 = _
        rw [e0, hw]
      · show (write now r.2.1 r.2.2.1 (charsT (rtext ls r) (((1 : Int) - 1).toNat))).2.2 = _
        rw [e0, hw]
    have hap := apply1_at now r.2.1 (cutL ls r.2.1.toNat (r.2.2.2.1 + 1).toNat) h0 hnl (by omega)
    rw [hng, g1] at hap
    have g3 : now.drop (r.2.1.toNat + 1) = ls.drop (r.2.2.2.1 + 1).toNat := g2
    rw [g3, hcutM] at hap
    exact ⟨_, _, now, _, _, hcut, ap, by omega, by simp, hfn, hpl, ea.trans ec, hap, by simp, by show (cutL ls _ _).length ≤ 40; omega⟩
  · rw [if_pos hk] at hc
    subst hc
    have hcut : cut ls r = ((r.2.1, cutL ls r.2.1.toNat (r.2.2.2.1 + 1).toNat, []), true) := by
      unfold cut
      rw [if_pos hv, if_neg (by rw [hk]; decide), if_neg (by rw [hk]; decide), if_neg (by simp only [beq_iff_eq]; omega)]
    have ap := apply1_cut ls r.2.1 r.2.2.2.1 [] h0 h1 h2 (.inr (by omega))
    have hcutM := cut_mid ls r.2.1.toNat (r.2.2.2.1 + 1).toNat (by omega)
    have hT : rtext ls r = cutL ls r.2.1.toNat (r.2.2.2.1 + 1).toNat := by
      unfold rtext
      rw [if_pos hv, ← eachL_self ls r.2.1 r.2.2.2.1 h0 h1 h2]
      unfold eachL
      refine List.map_congr_left fun j _ => ?_
      unfold textLine cols
      rw [if_neg (by rw [hk]; decide), if_neg (by rw [hk]; decide)]
      unfold cutL
      simp
    obtain ⟨now, hnow⟩ : ∃ now, ls.take r.2.1.toNat ++ [] ++ ls.drop (r.2.2.2.1 + 1).toNat = now := ⟨_, rfl⟩
    obtain ⟨g1, g2⟩ := take_drop_at (ls.take r.2.1.toNat) [] (ls.drop (r.2.2.2.1 + 1).toNat) r.2.1.toNat lA
    rw [hnow] at ap g1 g2
    have hnl : r.2.1.toNat < now.length ∧ now.length ≤ 40 := by rw [← hnow]; simp only [List.length_append, lA, List.length_nil, List.length_drop]; omega
    have hfn : fits 41 2400 now := by
      refine ⟨by omega, fun s hs => ?_⟩
      rw [← hnow] at hs
      simp only [List.mem_append, List.not_mem_nil, or_false] at hs
      rcases hs with hs | hs
      · have := hf.2 s (List.mem_of_mem_take hs); omega
      · have := hf.2 s (List.mem_of_mem_drop hs); omega
    have hpl : place now r.2.1 0 = true := by
      rw [place_iff]
      exact ⟨h0, hnl.1, by omega, by omega⟩
    have ea : atR now (r.2.1, 0) (r.1, rtext ls r) true 1 = ((r.2.1, [], cutL ls r.2.1.toNat (r.2.2.2.1 + 1).toNat), (r.2.1, firstC ((rtext ls r).getD 0 [])), true) := by
      unfold atR
      rw [if_neg (by rw [hk]; decide), if_pos (by rw [hk]; rfl), if_pos rfl]
      unfold wholeR
      rw [hT]
      rfl
    have hap : apply1 now (r.2.1, [], cutL ls r.2.1.toNat (r.2.2.2.1 + 1).toNat) = (ls, true) := by
      have e : apply1 now (r.2.1, [], cutL ls r.2.1.toNat (r.2.2.2.1 + 1).toNat) = _ := if_neg ?_
      · rw [e]
        simp only [g1, List.length_nil, Nat.add_zero]
        have g3 : now.drop r.2.1.toNat = ls.drop (r.2.2.2.1 + 1).toNat := g2
        rw [g3, hcutM]
      · intro h
        simp only [List.length_nil] at h
        have e0 : cutL now r.2.1.toNat (r.2.1 + ((0 : Nat) : Int)).toNat = [] := by
          unfold cutL
          rw [show (r.2.1 + ((0 : Nat) : Int)).toNat - r.2.1.toNat = 0 by omega, List.take_zero]
        rw [e0] at h
        simp only [beq_self_eq_true, Bool.not_true, Bool.or_false, Bool.or_eq_true, decide_eq_true_eq, beq_iff_eq] at h
        omega
    exact ⟨_, _, now, _, _, hcut, ap, by omega, by simp, hfn, hpl, ea, hap, by simp, by show (cutL ls _ _).length ≤ 40; omega⟩

set_option maxRecDepth 20000 in
set_option maxHeartbeats 4000000 in
theorem calls_PutBack (ls : Ls) (kd a b c d : Int) (hs : ∀ i, (ls.getD i []).length ≤ 140737488355328) (hkd : 0 ≤ kd ∧ kd < 256) (ha : 0 ≤ a ∧ a < 65536) (hb : 0 ≤ b ∧ b < 65536) (hc : 0 ≤ c ∧ c < 65536) (hd : 0 ≤ d ∧ d < 65536) :
    CallsR Try.prog 6 [.sl 1 (ls.map .str), .int .u8 kd, .int .u16 a, .int .u16 b, .int .u16 c, .int .u16 d] [] (.bool true) [] := by
  refine callsR_of (mrg := true) (dyn := []) (CtrOK.cons ok_pknown (CtrOK.cons ok_Text (CtrOK.cons ok_SRange (CtrOK.cons ok_RText (CtrOK.cons ok_RCut (CtrOK.cons ok_Apply (CtrOK.cons ok_PDo (CtrOK.cons ok_Strings (CtrOK.nil _))))))))) mixed Try.func6 rfl (by simp [Try.ntmps6]) (by kernel_rfl) ?_
  rw [show Try.f6.results.toList = [.tmp 12] from by kernel_rfl]
  cases ht : Pg.text ls with
  | false =>
    simp (maxSteps := 4000000) only [↓wpA_H, ↓wpH_skip, ↓wpH_ret, ↓wpH_seq, ↓wpH_cond, ↓wpH_region, ↓iselH_true, ↓iselH_false, bselH_false, runH_nil, runH_cons, gw, gselH_plain, cselH_bool, ↓chk, justK, ↓oneK, ↓pureK, envOf, ↓thenA_normal, ↓thenA_ret, ↓stepEv, opnd, Pg.look, Bool.not_false, Bool.not_true, Bool.false_eq_true, false_implies, implies_true, imp_self, true_and, and_true, valV, heapV, footV, ofV, ofLeaf, retA, resK, tupA, subA, subQ, ptrsE, frzO, subF, subG, pickOf, frzE, frzC, frz0, frzH, Pg.freeze, List.foldl_nil, subOs, subEv, subV_succ, subM, ↓callT, callC, callV, callH, normArgs, normA, normC, resL, res8_eq, res_succ, resM, shiftR, shift1, reduceCtorEq, Nat.reduceEqDiff, Nat.reduceAdd, List.nil_append, List.append_nil, List.length_nil, List.map_cons, List.map_nil, Nat.zero_add, ite_true, ite_false, Prod.mk.injEq, and_self, pickOK_nil, cSl_dec, lNil_dec, lOne_dec, List.contains_nil, List.range'_zero, decL_str, C1by_ns, C1by_pre, C1by_r, C1by_H, optP_some, optV_some, optH_some, kPKnown, kText, ht]
    exact hs
  | true =>
    have hft := fits_text ht
    obtain ⟨hl0, hl1, hl2⟩ := few_of_text ht
    have hsm : small ls := fits_small hft (by omega) (by omega)
    have hfw : few ls := ⟨by omega, fun i => by have := hl2 i; omega⟩
    have hm2 : kd.tmod 2 = kd % 2 := Int.tmod_eq_emod_of_nonneg hkd.1
    have w1 : IntKind.u8.wrap (kd % 2) = kd % 2 := by rw [IntKind.wrap_u8]; omega
    have hv := srange_valid ls (kd % 2) a b c d hl0 hc.1 hd.1
    have hk : (srange ls (kd % 2) a b c d).1 = 0 ∨ (srange ls (kd % 2) a b c d).1 = 1 := by
      show kd % 2 % 3 = 0 ∨ kd % 2 % 3 = 1
      omega
    generalize hr : srange ls (kd % 2) a b c d = r at hv hk
    obtain ⟨v1, v2, v3⟩ := valid_line hv
    have hmay := may_text ht hv
    have hT : few (rtext ls r) := ⟨by
        unfold rtext
        rw [if_pos hv, eachL_length]
        omega, fun i => by have := rtext_len (b := 1200) (now := ls) (r := r) hl2 i; omega⟩
    cases hlast : (r.1 == 1 && r.2.2.2.1 == (ls.length : Int) - 1) with
    | true =>
      obtain ⟨O, N, now, q0, e1, e2, e3, e4, e5, e6, e7, e8, _⟩ := cut_all ls r hft hv (by omega)
      have ap1 : applyL ls [(r.2.1, O, N)] = (now, true) := by rw [applyL1, e2]; rfl
      have m1 : ∀ x : Ch, x ∈ [(r.2.1, O, N)] → x.2.1.length ≤ 1048576 ∧ x.2.2.length ≤ 1048576 := fun x hx => by
        obtain rfl := List.mem_singleton.1 hx
        exact ⟨by show O.length ≤ _; omega, by show N.length ≤ _; omega⟩
      obtain ⟨k, p1, p2, g1, g2⟩ := r
      simp only at v1 v2 v3 ap1 m1 e1 hk hlast
      obtain ⟨h1, h2⟩ := Bool.and_eq_true_iff.1 hlast
      have w2 : IntKind.i64.wrap ((ls.length : Int) - 1) = (ls.length : Int) - 1 := wrap64 (by omega) (by omega)
      simp (maxSteps := 4000000) only [↓wpA_H, ↓wpH_skip, ↓wpH_ret, ↓wpH_seq, ↓wpH_cond, ↓wpH_region, ↓iselH_true, ↓iselH_false, bselH_false, runH_nil, runH_cons, gw, gselH_plain, gselH_if, kselH_0, kselH_1, cselH_bool, gkind, ↓chk, pickO, justK, noW, ↓oneK, ↓pureK, ↓heapK, envOf, ↓thenA_normal, ↓thenA_ret, ↓stepEv, opnd, Pg.look, binK, intOp, dstOf, Bool.not_false, Bool.not_true, Bool.false_eq_true, Bool.true_eq_false, false_implies, implies_true, true_and, and_true, pickC, pickV, unc, gof, mux, mergeK, condsL, valV, heapV, footV, binV, intV, mergeable, look_stripE, ofV, ofLeaf, sameK, retA, resK, tupA, subA, subQ, ptrsE, frzO, subF, subG, pickOf, frzE, frzC, frz0, frzH, Pg.freeze, List.foldl_nil, List.foldl_cons, subOs, subEv, subV_succ, subM, slen, ldCells, objAt, ↓callT, callC, callV, callH, normArgs, normA, normC, normL, normE, resL, res8_eq, res_succ, resM, shiftR, shift1, AV.cells, TK.cells, AV.definite, AV.leaf, AV.leafy, AV.pureLeaf, AV.pureB, putCells, lay, buildL, frzAt, Op.operands, Call.operands, Array.toList_append, List.getElem?_toArray, List.getElem?_cons_succ, List.getElem?_cons_zero, Option.bind_some, Option.getD_some, reduceCtorEq, Nat.reduceEqDiff, Nat.reduceAdd, List.nil_append, List.append_nil, List.cons_append, List.length_cons, List.length_nil, List.map_cons, List.map_nil, List.set_cons_zero, List.set_cons_succ, Nat.zero_add, ite_true, ite_false, Option.some.injEq, Option.isSome_some, AV.int.injEq, AV.agg.injEq, Prod.mk.injEq, ne_eq, List.all_cons, List.all_nil, Bool.and_self, and_self, exists_eq_left', pickOK_nil, List.length_map, cInt_dec, List.toList_toArray, rg1, cSl_dec, cAgg_dec, lNil_dec, lOne_dec, lCons_dec, dec2_some, List.contains_nil, beq_self_eq_true, decL_nil, decL_cons, consO_some, List.range'_zero, Nat.reducePow, decL_str, C1by_ns, C1by_pre, C1by_r, C1by_H, optP_some, optV_some, optH_some, List.getD_cons_zero, cutL, List.drop_zero, List.drop_succ_cons, List.take_succ_cons, List.take_zero, Nat.add_zero, Nat.sub_zero, Nat.reduceLeDiff, Nat.le_refl, Nat.one_mul, List.drop_nil, List.take_nil, Nat.zero_lt_succ, tk3, tk22, tk27, tk29, tz29, dz29, tk32, tz32, dz32, tk35, tz35, dz35, eb35, tk40, kPKnown, kText, kSRange, kRText, kRCut, kApply, kPDo, kStrings, ht, hm2, w2, hr, aRg, aCh, aPos, e1, ap1, h1, h2]
      exact ⟨hs, by decide, ⟨hl0, hfw, ha, hb, hc, hd, by omega, by omega⟩, hsm, hsm, by omega, m1⟩
    | false =>
      have hkk : r.1 = 0 ∨ r.1 = 1 ∧ r.2.2.2.1 + 1 < ls.length := by
        rcases hk with h | h
        · exact .inl h
        · rw [h] at hlast
          simp only [beq_self_eq_true, Bool.true_and, beq_eq_false_iff_ne, ne_eq] at hlast
          exact .inr ⟨h, by omega⟩
      obtain ⟨O, N, now, y, q, e1, e2, e3, e4, e5, e6, e7, e8, e9, e10⟩ := put_back ls r hft hv hkk _ rfl
      have ap1 : applyL ls [(r.2.1, O, N)] = (now, true) := by rw [applyL1, e2]; rfl
      have ap2 : applyL now [y] = (ls, true) := by rw [applyL1, e8]; rfl
      have m1 : ∀ x : Ch, x ∈ [(r.2.1, O, N)] → x.2.1.length ≤ 1048576 ∧ x.2.2.length ≤ 1048576 := fun x hx => by
        obtain rfl := List.mem_singleton.1 hx
        exact ⟨by show O.length ≤ _; omega, by show N.length ≤ _; omega⟩
      have m2 : ∀ x : Ch, x ∈ [y] → x.2.1.length ≤ 1048576 ∧ x.2.2.length ≤ 1048576 := fun x hx => by
        obtain rfl := List.mem_singleton.1 hx
        exact ⟨by omega, by omega⟩
      have hpf : putF now (r.2.1, if r.1 = 1 then 0 else r.2.2.1) (r.1, rtext ls r) true 1 = (y, clampP ls q false, true) := by
        unfold putF
        rw [if_pos (by simp only [e6, hmay, e7]; rfl), e7]
        simp only [e8]
      have smn : small now := fits_small e5 (by omega) (by omega)
      have lnow : ∀ i, (now.getD i []).length ≤ 1099511627775 := fun i => by have := fits_getD e5 i; omega
      have e5l := e5.1
      obtain ⟨y1, y2, y3⟩ := y
      obtain ⟨k, p1, p2, g1, g2⟩ := r
      simp only at v1 v2 v3 ap1 ap2 m1 m2 e1 e6 e7 e8 e9 e10 hk hpf hlast hmay
      have w2 : IntKind.i64.wrap ((ls.length : Int) - 1) = (ls.length : Int) - 1 := wrap64 (by omega) (by omega)
      rcases hk with h | h
      · subst h
        rw [if_neg (by decide)] at e6 e7 hpf
        simp (maxSteps := 4000000) only [↓wpA_H, ↓wpH_skip, ↓wpH_ret, ↓wpH_seq, ↓wpH_cond, ↓wpH_region, ↓iselH_false, bselH_false, runH_nil, runH_cons, gw, gselH_plain, gselH_if, kselH_0, kselH_1, cselH_bool, gkind, ↓chk, pickO, justK, noW, ↓oneK, ↓pureK, ↓heapK, envOf, ↓thenA_normal, ↓stepEv, opnd, Pg.look, binK, intOp, dstOf, Bool.and_false, Bool.not_false, Bool.not_true, Bool.false_eq_true, Bool.true_eq_false, false_implies, implies_true, imp_self, true_and, and_true, forall_const, pickC, pickV, unc, gof, mux, mergeK, condsL, valV, heapV, footV, binV, intV, mergeable, look_stripE, ofV, ofLeaf, sameK, retA, resK, tupA, subA, subQ, ptrsE, frzO, subF, subG, pickOf, frzE, frzC, frz0, frzH, Pg.freeze, List.foldl_nil, List.foldl_cons, subOs, subEv, subV_succ, subM, slen, ldCells, objAt, ↓callT, callC, callV, callH, normArgs, normA, normC, normL, normE, resL, res8_eq, res_succ, resM, shiftR, shift1, AV.cells, TK.cells, AV.definite, AV.leaf, AV.leafy, AV.pureLeaf, AV.pureB, putCells, lay, buildL, frzAt, Op.operands, Call.operands, Array.toList_append, List.getElem?_toArray, List.getElem?_cons_succ, List.getElem?_cons_zero, Option.bind_some, Option.getD_some, reduceCtorEq, Nat.reduceEqDiff, Nat.reduceAdd, Nat.reduceSub, List.nil_append, List.append_nil, List.cons_append, List.length_cons, List.length_nil, List.map_cons, List.map_nil, List.set_cons_zero, List.set_cons_succ, Nat.zero_add, ite_true, ite_false, Option.some.injEq, Option.isSome_some, AV.int.injEq, AV.agg.injEq, Prod.mk.injEq, ne_eq, List.all_cons, List.all_nil, Bool.and_self, and_self, exists_eq_left', pickOK_nil, List.length_map, cInt_dec, cBool_dec, List.toList_toArray, rg1, cSl_dec, cAgg_dec, lNil_dec, lOne_dec, lCons_dec, dec2_some, List.contains_nil, beq_self_eq_true, decL_nil, decL_cons, consO_some, Int.reduceBEq, List.range'_zero, Nat.reducePow, decL_str, C1by_ns, C1by_pre, C1by_r, C1by_H, optP_some, optV_some, optH_some, List.getD_cons_zero, cutL, List.drop_zero, List.drop_succ_cons, List.take_succ_cons, List.take_zero, Nat.add_zero, Nat.sub_zero, Nat.reduceLeDiff, Nat.le_refl, Nat.one_mul, List.drop_nil, List.take_nil, Nat.zero_lt_succ, tk3, tk22, tk27, tz27, dz27, tk29, tz29, dz29, tk32, tz32, dz32, tk35, tz35, dz35, eb35, tk40, kPKnown, kText, kSRange, kRText, kRCut, kApply, kPDo, kStrings, ht, hm2, w2, hr, aRg, aCh, aPos, e1, ap1, ap2, hpf]
        exact ⟨hs, by decide, ⟨hl0, hfw, ha, hb, hc, hd, by omega, by omega⟩, hsm, hsm, ⟨by omega, m1⟩, ⟨smn, by omega, lnow, hT, fun _ _ _ => ⟨by rw [e7]; simp only [e8]; exact hsm, by rw [e7]; show y2.length ≤ _; omega, by rw [e7]; show y3.length ≤ _; omega⟩⟩, ⟨by omega, m2⟩, by omega⟩
      · subst h
        rw [if_pos rfl] at e6 e7 hpf
        have h2 : (g1 == (ls.length : Int) - 1) = false := by simpa using hlast
        simp (maxSteps := 4000000) only [↓wpA_H, ↓wpH_skip, ↓wpH_ret, ↓wpH_seq, ↓wpH_cond, ↓wpH_region, ↓iselH_true, ↓iselH_false, bselH_false, runH_nil, runH_cons, gw, gselH_plain, gselH_if, kselH_0, kselH_1, cselH_bool, gkind, ↓chk, pickO, justK, noW, ↓oneK, ↓pureK, ↓heapK, envOf, ↓thenA_normal, ↓stepEv, opnd, Pg.look, binK, intOp, dstOf, Bool.not_false, Bool.not_true, Bool.false_eq_true, Bool.true_eq_false, false_implies, implies_true, true_and, and_true, forall_const, pickC, pickV, unc, gof, mux, mergeK, condsL, valV, heapV, footV, binV, intV, mergeable, look_stripE, ofV, ofLeaf, sameK, retA, resK, tupA, subA, subQ, ptrsE, frzO, subF, subG, pickOf, frzE, frzC, frz0, frzH, Pg.freeze, List.foldl_nil, List.foldl_cons, subOs, subEv, subV_succ, subM, slen, ldCells, objAt, ↓callT, callC, callV, callH, normArgs, normA, normC, normL, normE, resL, res8_eq, res_succ, resM, shiftR, shift1, AV.cells, TK.cells, AV.definite, AV.leaf, AV.leafy, AV.pureLeaf, AV.pureB, putCells, lay, buildL, frzAt, Op.operands, Call.operands, Array.toList_append, List.getElem?_toArray, List.getElem?_cons_succ, List.getElem?_cons_zero, Option.bind_some, Option.getD_some, reduceCtorEq, Nat.reduceEqDiff, Nat.reduceAdd, Nat.reduceSub, List.nil_append, List.append_nil, List.cons_append, List.length_cons, List.length_nil, List.map_cons, List.map_nil, List.set_cons_zero, List.set_cons_succ, Nat.zero_add, ite_true, ite_false, Option.some.injEq, Option.isSome_some, AV.int.injEq, AV.agg.injEq, Prod.mk.injEq, ne_eq, List.all_cons, List.all_nil, Bool.and_self, and_self, exists_eq_left', pickOK_nil, List.length_map, cInt_dec, cBool_dec, List.toList_toArray, rg1, cSl_dec, cAgg_dec, lNil_dec, lOne_dec, lCons_dec, dec2_some, List.contains_nil, beq_self_eq_true, decL_nil, decL_cons, consO_some, List.range'_zero, Nat.reducePow, decL_str, C1by_ns, C1by_pre, C1by_r, C1by_H, optP_some, optV_some, optH_some, List.getD_cons_zero, cutL, List.drop_zero, List.drop_succ_cons, List.take_succ_cons, List.take_zero, Nat.add_zero, Nat.sub_zero, Nat.reduceLeDiff, Nat.le_refl, Nat.one_mul, List.drop_nil, List.take_nil, Nat.zero_lt_succ, tk3, tk22, tk27, tz27, dz27, tk29, tz29, dz29, tk32, tz32, dz32, tk35, tz35, dz35, eb35, tk40, kPKnown, kText, kSRange, kRText, kRCut, kApply, kPDo, kStrings, ht, hm2, w2, hr, aRg, aCh, aPos, e1, ap1, ap2, hpf, h2]
        exact ⟨hs, by decide, ⟨hl0, hfw, ha, hb, hc, hd, by omega, by omega⟩, hsm, hsm, ⟨by omega, m1⟩, ⟨smn, by omega, lnow, hT, fun _ _ _ => ⟨by rw [e7]; simp only [e8]; exact hsm, by rw [e7]; show y2.length ≤ _; omega, by rw [e7]; show y3.length ≤ _; omega⟩⟩, ⟨by omega, m2⟩, by omega⟩
end Go.Pg
