/- The example of chapter 19. -/
import Derived.Test.YtohpkjpipihdoaaPgFr6
namespace Go.Pg
open Go Go.Proofs

theorem cRegs : CtrOK Try.prog [(33, kRNew), (34, kRCut), (39, kRPut), (35, kRGet), (29, kHReg), (49, kNamesBQ), (31, kRgSize)] :=
  CtrOK.cons ok_RNew (CtrOK.cons ok_RCut (CtrOK.cons ok_RPut (CtrOK.cons ok_RGet (CtrOK.cons ok_HReg (CtrOK.cons ok_NamesBQ (CtrOK.cons ok_RgSize (CtrOK.nil _)))))))
abbrev xA : RgV := (1, [[120]])
abbrev xB : RgV := (1, [[121]])
theorem stock_nil : stockR [] := fun k v h => by cases h
set_option maxRecDepth 20000 in
set_option maxHeartbeats 8000000 in
theorem calls_known19 : CallsR Try.prog 27 [] [] (.bool true) [] := by
  refine callsR_of (mrg := false) (dyn := [6]) (cRegs) mixed Try.func27 rfl (by simp [Try.ntmps27]) (by kernel_rfl) ?_
  rw [show Try.f27.results.toList = [.tmp 0] from by kernel_rfl]
  obtain ⟨l1, h1⟩ : ∃ l : Rgs, l = [(49, xA), (34, xA)] := ⟨_, rfl⟩
  obtain ⟨l2, h2⟩ : ∃ l : Rgs, l = [(49, xB), (34, xB), (50, xA)] := ⟨_, rfl⟩
  have s1 : setR cutR [] 0 (1, [[120]]) = (0, l1) := by rw [h1]; rfl
  have s2 : setR cutR l1 0 (1, [[121]]) = (0, l2) := by rw [h1, h2]; rfl
  have s3 : putR l2 33 (1, [[120]]) = (23, l2) := by rw [h2]; rfl
  have g1 : look1 (gname 49) l2 = some (1, [[121]]) := by rw [h2]; rfl
  have g2 : look1 (gname 50) l2 = some (1, [[120]]) := by rw [h2]; rfl
  have hs : srt (keysQ l2) = [34, 49, 50] := by rw [h2]; exact (srt_perm (List.Perm.swap 34 49 [50])).trans (List.mergeSort_of_pairwise (by decide))
  have hn : l2.length = 3 := by rw [h2]; rfl
  have hz : lsz [[120]] = 2 := rfl
  have t1 : stockR l1 := fun k v h => by
    have : v = xA := by
      rw [h1] at h
      simp only [look1] at h
      split at h
      · cases h; rfl
      · split at h
        · cases h; rfl
        · cases h
    rw [this]; decide
  have t2 : stockR l2 := fun k v h => by
    have : v = xA ∨ v = xB := by
      rw [h2] at h
      simp only [look1] at h
      split at h
      · cases h; exact .inr rfl
      · split at h
        · cases h; exact .inr rfl
        · split at h
          · cases h; exact .inl rfl
          · cases h
    rcases this with h | h <;> rw [h] <;> decide
  clear h1 h2
  simp (maxSteps := 4000000) only [↓wpA_H, ↓wpH_skip, ↓wpH_ret, ↓wpH_seq, ↓wpH_cond, ↓wpH_region, bselH_true, ↓iselH_true, ↓iselH_false, bselH_false, runH_nil, runH_cons, ↓fixG, setG, gw, gselH_plain, gselH_if, kselH_2, cselH_bool, gkind, ↓chk, justK, noW, ↓oneK, ↓pureK, ↓heapK, envOf, ↓thenA_normal, ↓stepEv, opnd, Pg.look, binK, intOp, strOp, dstOf, Bool.and_true, Bool.not_false, Bool.not_true, Bool.false_eq_true, Bool.true_eq_false, false_implies, implies_true, true_and, and_true, forall_const, pickC, pickV, unc, gof, mux, valV, heapV, footV, binV, intV, strV, alives, closeQ_nil, diagQ_zero, Nat.reduceAdd, mergeable, ofV, ofLeaf, retA, resK, tupA, subA, subQ, ptrsE, frzO, subF, subG, pickOf, frzE, frzC, frz0, frzH, Pg.freeze, List.foldl_nil, List.foldl_cons, subOs, subEv, subV_succ, subM, srcV, srcL, ldCells, objAt, ↓callT, callC, callV, callH, normArgs, normA, normC, normL, resL, res8_eq, res_succ, resM, shiftR, shift1, AV.cells, TK.cells, AV.definite, AV.leaf, AV.leafy, AV.pureLeaf, AV.pureB, putCells, lay, buildL, frzAt, List.getElem?_toArray, List.getElem?_cons_succ, List.getElem?_cons_zero, Option.bind_some, Option.getD_some, reduceCtorEq, Nat.reduceEqDiff, Nat.reduceAdd, Nat.reduceLT, Nat.reduceSub, List.nil_append, List.append_nil, List.cons_append, List.length_cons, List.length_nil, List.map_cons, List.map_nil, List.set_cons_zero, List.set_cons_succ, Nat.zero_add, Int.reduceToNat, ite_true, ite_false, Option.some.injEq, Option.isSome_some, AV.str.injEq, AV.agg.injEq, Prod.mk.injEq, List.all_cons, List.all_nil, Bool.and_self, and_self, exists_eq_left', pickOK_nil, cInt_dec, rg1, length_ofBytes, cByte_lit, Int.reduceLE, Int.reduceLT, UInt8.reduceOfNat, bytesOf_ofBytes, cStr_dec, cSl_dec, cAgg_dec, lOne_dec, lCons_dec, dec2_some, List.contains_cons, List.contains_nil, Nat.reduceBEq, Bool.or_self, Bool.or_false, beq_self_eq_true, decL_nil, decL_cons, consO_some, List.range'_zero, Nat.reducePow, C1by_ns, C1by_pre, C1by_r, C1by_H, optP_some, optV_some, optH_some, List.getD_cons_zero, List.getD_cons_succ, cutL, List.drop_zero, List.drop_succ_cons, List.take_succ_cons, List.take_zero, Nat.sub_zero, Nat.sub_self, Nat.reduceLeDiff, Nat.le_refl, Nat.mul_one, List.drop_nil, List.take_nil, Nat.zero_lt_succ, C1by_it, regH_none, isNext, nextF, nextG, selC_false, ↓msel, muC, ↓callP, ↓callU, ↓callUV, ↓callUH, ↓callUF, C1by_mu, C1mby_mu, runM_eq, mkM_some, hNil_dec, hCons_dec, app3_some, hP_dec, hP1_some, hP2_some, hO1_some, hM1_mp, hMp_dec, hB1_some, hB2_arr, hBox_dec, hAgg_dec, decE_nil, encE_nil, pickF, nodupB, somes, fresh, gids, gid, putO, ren, renL, renO, List.range'_succ, tk5, tk9, eb9, tk32, tk50, tk52, tz52, dz52, pt58, kRNew, kRCut, kRPut, kRGet, kHReg, kNamesBQ, kRgSize, hFile, decE_rg, rgH, s1, s2, s3, g1, g2, hs, hz, hn, renL_bytes, length_ofBytes]
  exact ⟨⟨stock_nil, by decide, by decide⟩, ⟨t1, by decide, by decide⟩, ⟨t2, by decide, by decide⟩, by kernel_rfl, fun v h => by (cases h; decide), fun v h => by (cases h; decide), by decide, by decide⟩
def kKnown19 : C1 := C1.by [] lNil (fun _ => True) (fun _ => .bool true) (fun _ => [])
theorem ok_known19 : C1OK Try.prog 27 kKnown19 := C1OK.by (by kernel_rfl) (fun _ _ => calls_known19) (fun _ => rfl) (fun _ => rfl)
end Go.Pg
