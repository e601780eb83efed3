/- The names of the registers. -/
import Derived.Test.YtohpkjpipihdoaaPgFr5
import Derived.Test.YtohpkjpipihdoaaPgFx8
import Derived.Test.YtohpkjpipihdoaaPgNd2
namespace Go.Pg
open Go Go.Proofs

def keysQ (l : Rgs) : List UInt8 := l.map (·.1)
theorem okM_strs (d : Nat) (l : LsR) : ((l.map AV.str).all fun v => v.cells.all (AV.okM d)) = true := by
  simp only [List.all_map, List.all_eq_true]
  intro x _
  simp [AV.cells, AV.okM]
theorem okM_entR (l : Rgs) : (encE cByte cRgV l).all (fun p => p.1.okM 4 && p.2.okM 4) = true := by
  simp only [encE, List.all_map, List.all_eq_true]
  intro p _
  have h := okM_strs 2 p.2.2
  show ((cByte.enc p.1).okM 4 && (cRgV.enc p.2).okM 4) = true
  simp only [cRgV_enc, aRg, AV.okM, List.all_cons, List.all_nil, h, Bool.and_self]
  rfl
abbrev rgF (l : Rgs) : AH := [.arr 92 1 [.agg [.mp 1]], .fmp (encE cByte cRgV l)]
theorem erase_permQ {left : Rgs} {j : Nat} {p : UInt8 × RgV} (hj : left[j]? = some p) : (keysQ left).Perm (p.1 :: keysQ (left.eraseIdx j)) := by
  induction left generalizing j with
  | nil => simp at hj
  | cons x r ih =>
    cases j with
    | zero => simp only [List.getElem?_cons_zero, Option.some.injEq] at hj; subst hj; exact List.Perm.refl _
    | succ j =>
      have := ih (j := j) (by simpa using hj)
      exact (this.cons x.1).trans (List.Perm.swap _ _ _)

set_option maxRecDepth 20000 in
set_option maxHeartbeats 4000000 in
theorem it_KeysQ (l : Rgs) : ItR Try.prog 68 [.rp [.fm (encE cByte cRgV l)]] ⟨List UInt8, [], keysR (keysQ l), keysD (keysQ l)⟩ := by
  refine itV_of (mrg := true) (dyn := []) (CtrOK.nil _) mixed Try.func68 rfl (by simp [Try.ntmps68]) (by kernel_rfl) (by kernel_rfl) ?_
  intro y
  simp (maxSteps := 4000000) only [↓wpY_H, ↓wpYH_seq, ↓wpYH_block, ↓wpYH_loop, ↓wpYH_region0, regYH_none, runYH_nil, runYH_cons, ↓oneYH_eq, yarg, yselH_none, ↓thenY_normal, gw, gselH_plain, ↓chk, justK, noW, ↓oneK, ↓heapK, envOf, ↓stepEv, opnd, Pg.look, Bool.false_eq_true, implies_true, true_and, and_true, valV, heapV, footV, ldCells, TK.cells, List.getElem?_cons_zero, Option.getD_some, reduceCtorEq, Nat.reduceEqDiff, List.nil_append, List.length_nil, Nat.zero_add, ite_true, ite_false, Option.some.injEq, and_self, exists_eq_left', isNext, nextF, nextG, ↓mapK, tk90, mt90]
  refine loopYH_intro (ι := List UInt8) (α := Option (AV × AV) × List UInt8 × Rgs) (fun x => (some x.2.1, [(5, .it 0), (0, .yld y)], [.it x.1 (encE cByte cRgV x.2.2)]))
    (fun x => (x.2.1 ++ keysQ x.2.2).Perm (keysQ l)) (fun x => x.2.2.length) (none, [], l) (List.Perm.refl _) rfl ?_ ?_
  · simp (maxSteps := 4000000) only [Pg.look, alives, aliveO, closeQ_nil, diagQ_zero, subA, subQ, ptrsE, pairsO, frzO, subF, subG, pickOf, assocN, pairsE, pairsC, pairs0, frzE, frzC, frz0, frzH, Pg.freeze, List.foldl_nil, subOs, subO, subEv, subV_succ, subM, List.getElem?_cons_zero, reduceCtorEq, Nat.reduceEqDiff, List.append_nil, ite_true, ite_false, and_self, pickOK_one, Nat.lt_irrefl]
  rintro ⟨c, t, left⟩ hp
  simp (maxSteps := 4000000) only [↓wpY_H, ↓wpYH_skip, ↓wpYH_ret, ↓wpYH_exit, ↓wpYH_seq, ↓wpYH_cond, ↓wpYH_block, ↓wpYH_region0, regYH_none, regYH_some, runYH_nil, runYH_cons, ↓oneYH_eq, yarg, yselH_none, yselH_some, ↓thenY_normal, ↓thenY_ret, ↓thenY_exit, ↓blockY_normal, ↓blockY_ret, ↓blockY_exit, ↓endY_normal, ↓endY_ret, endT_none, endT_some, ↓iselH_true, ↓iselH_false, gw, gselH_plain, cselH_bool, ↓chk, justK, ↓oneK, ↓pureK, ↓stepEv, opnd, Pg.look, Bool.and_true, Bool.not_false, Bool.not_true, Bool.false_eq_true, implies_true, imp_self, true_and, and_true, valV, heapV, footV, alives, aliveO, closeQ_nil, diagQ_zero, subA, subQ, ptrsE, pairsO, frzO, subF, subG, pickOf, assocN, pairsE, pairsC, pairs0, frzE, frzC, frz0, frzH, Pg.freeze, List.foldl_nil, subOs, subO, subEv, subV_succ, subM, List.getElem?_cons_zero, Option.getD_some, reduceCtorEq, Nat.reduceEqDiff, List.append_nil, List.map_cons, List.map_nil, List.set_cons_zero, ite_true, ite_false, Option.some.injEq, List.all_cons, List.all_nil, and_self, exists_eq_left', pickOK_one, Nat.lt_irrefl, nextA_it, nextM_enc, isNext, nextF, nextG, ↓mapK, yieldU_some, cRgV_enc, cByte_enc]
  refine ⟨fun he => ?_, fun j p hj => ⟨rfl, t ++ [p.1], ⟨p.1, keysQ (left.eraseIdx j), rfl, rfl, ((erase_permQ hj).symm.append_left t).trans hp⟩, (some (cByte.enc p.1, cRgV.enc p.2), t ++ [p.1], left.eraseIdx j), ?_, ?_, rfl, rfl, rfl⟩⟩
  · subst he
    simpa [keysQ, keysD] using hp
  · rw [List.append_assoc]
    exact ((erase_permQ hj).symm.append_left t).trans hp
  · have := (List.getElem?_eq_some_iff.1 hj).1
    show (left.eraseIdx j).length < left.length
    rw [List.length_eraseIdx_of_lt this]; omega

def lKeysQ : CdL Rgs := lOne (cRp (lOne (cFm cByte cRgV)))
theorem lKeys_decQ (l : Rgs) : lKeysQ.dec [.rp [.fm (encE cByte cRgV l)]] = some l := decE_rg l
def kKeys1Q : C1 := C1.itU lKeysQ (fun _ => True) (fun d => keysT (keysQ d))
theorem ok_Keys1Q : C1OK Try.prog 68 kKeys1Q := C1OK.itU (by kernel_rfl) (fun d _ => it_KeysQ d)

/-- The iterator, as a value. -/
def aKeysQ (l : Rgs) : AV := .fn 68 [.rp [.fm (encE cByte cRgV l)]]

set_option maxHeartbeats 4000000 in
theorem calls_KeysQ (l : Rgs) : CallsR Try.prog 62 [.fm (encE cByte cRgV l)] [] (aKeysQ l) [] := by
  refine callsR_of (mrg := true) (dyn := []) (CtrOK.nil _) mixed Try.func62 rfl (by simp [Try.ntmps62]) (by kernel_rfl) ?_
  rw [show Try.f62.results.toList = [.tmp 2] from by kernel_rfl]
  simp (maxSteps := 4000000) only [↓wpA_H, ↓wpH_ret, ↓wpH_seq, ↓wpH_region, bselH_false, runH_nil, runH_cons, gw, gselH_plain, ↓chk, justK, noW, ↓oneK, ↓pureK, ↓heapK, envOf, ↓thenA_normal, ↓stepEv, opnd, Pg.look, Bool.false_eq_true, implies_true, valV, heapV, footV, alives, closeQ_nil, diagQ_zero, ofV, ofLeaf, retA, resK, tupA, subA, subQ, ptrsE, frzO, subF, subG, pickOf, frzE, frzC, frzL, frz0, frzH, Pg.freeze, List.foldl_nil, List.foldl_cons, subOs, subEv, subV_succ, subM, subL, objAt, resL, res_succ, resM, AV.cells, AV.definite, frzAt, List.getElem?_cons_zero, reduceCtorEq, Nat.reduceEqDiff, List.nil_append, List.append_nil, List.length_cons, List.length_nil, List.map_cons, List.map_nil, List.set_cons_zero, Nat.zero_add, ite_true, ite_false, List.all_cons, List.all_nil, Bool.and_self, and_self, pickOK_nil, resIn, List.contains_cons, List.contains_nil, Bool.or_false, beq_self_eq_true, List.getD_cons_zero, List.drop_zero, Nat.zero_lt_succ, regH_none, isNext, nextF, nextG, selC_false, aKeysQ]

set_option maxRecDepth 20000 in
set_option maxHeartbeats 4000000 in
theorem calls_AppendSeqQ (l : Rgs) (hl : l.length ≤ 256) : CallsE Try.prog 65 [.nls, aKeysQ l] [] (fun t : List UInt8 => t.Perm (keysQ l)) (fun t => .own 0 1 t.length) (fun t => [.arr 5 1 (ofBytes t)]) := by
  refine callsE_of (mrg := true) (dyn := []) (CtrOK.cons ok_Keys1Q (CtrOK.nil _)) mixed Try.func65 rfl (by simp [Try.ntmps65]) (by kernel_rfl) ?_
  rw [show Try.f65.results.toList = [.tmp 4] from by kernel_rfl]
  unfold aKeysQ
  simp (maxSteps := 4000000) only [↓wpA_H, ↓wpH_seq, ↓wpH_block, ↓wpH_region, bselH_false, runH_nil, runH_cons, gw, gselH_plain, ↓chk, justK, noW, ↓oneK, ↓pureK, ↓heapK, envOf, ↓thenA_normal, ↓stepEv, opnd, Pg.look, Bool.false_eq_true, implies_true, true_and, valV, heapV, footV, ofV, ofLeaf, Pg.freeze, List.foldl_nil, resL, res8_eq, res_succ, resM, AV.cells, AV.definite, reduceCtorEq, Nat.reduceEqDiff, List.nil_append, List.append_nil, List.length_cons, List.length_nil, Nat.zero_add, ite_true, ite_false, and_self, List.contains_nil, optP_some, ↓wpH_range, rangH_fn, rangR_some, iterC, regH_none, isNext, nextF, nextG, selC_false, C1itU_mu, C1itU_it, C1itU_pre, C1itU_xs, optU_some, kKeys1Q, lKeys_decQ]
  rw [mark_eq]
  have hkl : (keysQ l).length ≤ 256 := by simpa [keysQ] using hl
  refine rangU_intro (X := ⟨List UInt8, [], keysR (keysQ l), keysD (keysQ l)⟩) [(2, .ptr 0 1 1 0 0)] [.arr 32 1 [.nls]]
    (fun t => ([(2, .ptr 0 1 1 0 0)], [.arr 32 1 [.own 1 1 t.length], .arr 5 1 (ofBytes t)])) (fun t => t.length ≤ 256) ?_ ?_ (Nat.zero_le _) ?_ ?_ ?_
  · simp (maxSteps := 4000000) only [Pg.look, true_and, and_true, alives, aliveO, nxtQ, hdS, pairsA, frzA, closeQ_nil, closeQ_succ, diagQ_zero, subA, subQ, ptrsE, pairsO, frzO, subF, subG, pickOf, assocN, pairsE, pairsC, pairs0, frzE, frzC, frz0, frzH, Pg.freeze, List.foldl_nil, subOs, subO, subEv, subV_succ, subM, AV.cells, AV.pureLeaf, AV.pureB, List.getElem?_cons_zero, reduceCtorEq, Nat.reduceEqDiff, List.append_nil, ite_true, ite_false, List.all_cons, List.all_nil, Bool.and_self, and_self, pickOK_one, Nat.lt_irrefl]
    exact subX_eq rfl rfl
  · simp (maxSteps := 4000000) only [Pg.look, true_and, and_true, alives, aliveO, nxtQ, hdS, pairsA, frzA, closeQ_nil, closeQ_succ, diagQ_zero, diagQ_succ, subA, subQ, ptrsE, pairsO, frzO, subF, subG, pickOf, assocN, pairsE, pairsC, pairs0, frzE, frzC, frz0, frzH, Pg.freeze, List.foldl_nil, subOs, subO, subEv, subV_succ, subM, AV.cells, AV.pureLeaf, AV.pureB, List.getElem?_cons_zero, reduceCtorEq, List.nil_append, List.append_nil, List.cons_append, List.length_cons, List.length_nil, Nat.zero_add, ite_true, ite_false, List.all_cons, List.all_nil, Bool.and_self, and_self, Nat.lt_irrefl, Nat.zero_lt_succ]
    exact ⟨by decide, subX_nls' rfl, rfl⟩
  · rintro t x t' ⟨c, left, rfl, rfl, hp⟩
    rfl
  · rintro t x t' ⟨c, left, rfl, rfl, hp⟩ ht
    have h1 := hp.length_eq
    rw [List.length_append, List.length_cons] at h1
    simp (maxSteps := 4000000) only [↓wpA_H, ↓wpH_block, ↓wpH_region, bselH_false, runH_nil, runH_cons, gw, gselH_plain, ↓chk, justK, noW, ↓oneK, ↓pureK, ↓heapK, ↓thenA_normal, ↓blockA_normal, ↓stepEv, opnd, Pg.look, Bool.and_true, Bool.false_eq_true, implies_true, true_and, and_true, valV, heapV, footV, alives, aliveO, nxtQ, hdS, pairsA, frzA, closeQ_nil, closeQ_succ, diagQ_zero, diagQ_succ, Nat.reduceAdd, ofV, ofLeaf, subA, subQ, ptrsE, pairsO, frzO, subF, subG, pickOf, assocN, pairsE, pairsC, pairs0, frzE, frzC, frz0, frzH, Pg.freeze, List.foldl_nil, subOs, subO, subEv, subV_succ, subM, srcV, srcE, appK, ldCells, objAt, AV.cells, TK.cells, AV.definite, AV.leaf, AV.leafy, AV.pureLeaf, AV.pureB, putCells, List.getElem?_cons_succ, List.getElem?_cons_zero, Option.getD_some, reduceCtorEq, Nat.reduceEqDiff, Nat.reduceAdd, List.nil_append, List.append_nil, List.cons_append, List.length_cons, List.length_nil, List.map_cons, List.map_nil, List.set_cons_zero, List.set_cons_succ, Nat.zero_add, ite_true, ite_false, Option.some.injEq, Option.isSome_some, List.all_cons, List.all_nil, Bool.and_self, and_self, exists_eq_left', List.length_append, rg1, length_ofBytes, app1_ofBytes, pureB_bytes, List.contains_nil, beq_self_eq_true, Nat.reducePow, List.getD_cons_zero, Nat.reduceLeDiff, Nat.le_refl, Nat.lt_irrefl, Nat.mul_one, Nat.zero_lt_succ, parE_cons, parE_nil, rqH_normal, regH_none, isNext, nextF, nextG, selC_false, eb5, tk32, dz32]
    exact ⟨⟨by decide, by omega⟩, by omega, by decide, subX_own' rfl rfl, subX_eq rfl (pureB_bytes _)⟩
  · intro t hD ht
    simp (maxSteps := 4000000) only [↓wpA_H, ↓wpH_ret, ↓wpH_seq, ↓wpH_region, bselH_false, runH_nil, runH_cons, gw, gselH_plain, ↓chk, justK, noW, ↓oneK, ↓pureK, ↓heapK, ↓thenA_normal, ↓blockA_normal, ↓stepEv, opnd, Pg.look, Bool.false_eq_true, implies_true, true_and, and_true, valV, heapV, footV, alives, aliveO, closeQ_nil, diagQ_zero, resK, tupA, subA, subQ, ptrsE, pairsO, frzO, subF, subG, pickOf, assocN, pairsE, pairsC, pairs0, frzE, frzC, frz0, frzH, Pg.freeze, List.foldl_nil, subOs, subO, subEv, subV_succ, subM, ldCells, objAt, AV.cells, TK.cells, List.getElem?_cons_succ, List.getElem?_cons_zero, Option.getD_some, Nat.reduceEqDiff, List.append_nil, List.length_cons, List.length_nil, Nat.zero_add, ite_true, ite_false, Option.some.injEq, and_self, exists_eq_left', pickOK_one, List.contains_nil, List.getD_cons_zero, Nat.lt_irrefl, Nat.zero_lt_succ, regH_none, isNext, nextF, nextG, selC_false, tk32, dz32, retE, kKeys1Q]
    exact ⟨t, hD, subX_eq rfl (pureB_bytes _), rfl⟩
def kKeysQ : C1 := C1.by [.id] (lOne (cFm cByte cRgV)) (fun _ => True) (fun d => aKeysQ d) (fun _ => [])
theorem ok_KeysQ : C1OK Try.prog 62 kKeysQ := C1OK.by (by kernel_rfl) (fun d _ => calls_KeysQ d) (fun _ => rfl) (fun _ => rfl)
def lSortedQ : CdL Rgs := lOne (cFn 68 lKeysQ)
theorem lSorted_decQ (l : Rgs) : lSortedQ.dec [.fn 68 [.rp [.fm (encE cByte cRgV l)]]] = some l := decE_rg l
theorem cFmRg_decQ (l : Rgs) : (cFm cByte cRgV).dec (.fm (encE cByte cRgV l)) = some l := decE_rg l
theorem calls_SortedBQ (l : Rgs) (hl : l.length < 50) : CallsR Try.prog 47 [aKeysQ l] [] (.own 0 1 l.length) [.arr 5 1 (ofBytes (srt (keysQ l)))] := by
  intro E vals hr hv
  obtain ⟨g, rfl, kg⟩ := hv.one
  refine (pass_Sorted E.W g (fun v w'' => ∃ E', E'.W = w'' ∧ VR E' (.own 0 1 l.length) v ∧ Rel [.arr 5 1 (ofBytes (srt (keysQ l)))] E' ∧ Step [] E [.arr 5 1 (ofBytes (srt (keysQ l)))] E') ?_).mono fun e W' ⟨v, he, E', h1, h2, h3, h4⟩ => ⟨v, E', he, h1, h2, h3, h4⟩
  refine pass_Collect E.W g _ ?_
  refine (calls_AppendSeqQ l (by omega) E #[.slice none 0 0, g] hr ⟨rfl, fun i c hc => ?_⟩).mono fun e W' ⟨t, v, E1, hx, he, hW, hvr, hr1, hst⟩ => ⟨v, he, ?_⟩
  · match i, hc with
    | 0, hc => cases hc; exact .nls
    | 1, hc => cases hc; exact kg
    | i + 2, hc => simp at hc
  · subst hW
    have htl : t.length = l.length := by rw [hx.length_eq]; simp [keysQ]
    refine (calls_SortB t (by omega) E1 #[v] hr1 ⟨rfl, fun i c hc => ?_⟩).mono fun e W'' ⟨u, E2, he, hW, _, hr2, hst2⟩ => ⟨⟨u, he⟩, E2, hW, ?_, ?_, ?_⟩
    · match i, hc with
      | 0, hc => cases hc; exact hvr
      | i + 1, hc => simp at hc
    · rw [← htl]; exact hvr.mono (hst2.ext hr1)
    · rw [srt_perm hx] at hr2; exact hr2
    · rw [srt_perm hx] at hst2; exact hst.trans hst2
def kSortedBQ : C1 := C1.by [.id] lSortedQ (fun d => d.length < 50) (fun d => .own 0 1 d.length) (fun d => [.arr 5 1 (ofBytes (srt (keysQ d)))])
theorem ok_SortedBQ : C1OK Try.prog 47 kSortedBQ := C1OK.by (by kernel_rfl) (fun d h => calls_SortedBQ d h) (fun _ => rfl) (fun d => by simp [okObj, pureB_bytes])

set_option maxRecDepth 20000 in
set_option maxHeartbeats 4000000 in
theorem calls_NamesFBQ (l : Rgs) (hl : l.length < 50) : CallsR Try.prog 49 [.ptr 0 1 1 0 0] (rgF l) (.own 2 1 l.length) (rgF l ++ [.arr 5 1 (ofBytes (srt (keysQ l)))]) := by
  refine callsR_of (mrg := true) (dyn := []) (CtrOK.cons ok_KeysQ (CtrOK.cons ok_SortedBQ (CtrOK.nil _))) mixed Try.func49 rfl (by simp [Try.ntmps49]) (by kernel_rfl) ?_
  rw [show Try.f49.results.toList = [.tmp 2] from by kernel_rfl]
  simp (maxSteps := 4000000) only [↓wpA_H, ↓wpH_ret, ↓wpH_seq, ↓wpH_region, bselH_false, runH_nil, runH_cons, gw, gselH_plain, ↓chk, justK, noW, ↓oneK, ↓pureK, ↓heapK, envOf, ↓thenA_normal, ↓stepEv, opnd, Pg.look, Bool.and_true, Bool.false_eq_true, false_implies, implies_true, true_and, and_true, valV, heapV, footV, alives, aliveO, nxtQ, hdS, pairsA, frzA, closeQ_nil, closeQ_succ, diagQ_zero, diagQ_succ, Nat.reduceAdd, ofV, ofLeaf, retA, resK, tupA, subA, subQ, ptrsE, pairsO, frzO, subF, subG, pickOf, assocN, pairsE, pairsC, pairsL, pairs0, frzE, frzC, frzL, frz0, frzH, Pg.freeze, List.foldl_nil, List.foldl_cons, subOs, subO, subEv, subV_succ, subM, ldCells, objAt, ↓callT, callC, callV, callH, normArgs, normA, resL, res8_eq, res_succ, resM, shiftR, shift1, AV.cells, TK.cells, AV.pureLeaf, AV.pureB, frzAt, List.getElem?_cons_succ, List.getElem?_cons_zero, Option.getD_some, reduceCtorEq, Nat.reduceEqDiff, Nat.reduceAdd, Nat.reduceLT, List.nil_append, List.append_nil, List.cons_append, List.length_cons, List.length_nil, List.map_cons, List.map_nil, Nat.zero_add, ite_true, ite_false, Option.some.injEq, Prod.mk.injEq, List.all_cons, List.all_nil, and_self, exists_eq_left', lOne_dec, List.contains_nil, List.range'_zero, C1by_ns, C1by_pre, C1by_r, C1by_H, optP_some, optV_some, optH_some, List.getD_cons_zero, Nat.add_zero, Nat.lt_irrefl, Nat.zero_lt_succ, C1by_it, regH_none, isNext, nextF, nextG, selC_false, ↓msel, muC, ↓callP, C1by_mu, mapAt, List.range'_succ, tk90, tk92, dz92, kKeysQ, kSortedBQ, aKeysQ, lSorted_decQ, cFmRg_decQ, rgF]
  refine ⟨hl, by decide, subX_one ?_, subX_eq rfl (pureB_bytes _)⟩
  simp (maxSteps := 4000000) only [subV_succ, subM, subL, AV.cells, List.getElem?_cons_succ, List.getElem?_cons_zero, and_self]
theorem calls_NamesBQ (l : Rgs) (hl : l.length < 50) : CallsR Try.prog 49 [.ptr 0 1 1 0 0] (rgH l) (.own 2 1 l.length) (rgH l ++ [.arr 5 1 (ofBytes (srt (keysQ l)))]) := by
  refine callsR_thawM (id := 1) (es := encE cByte cRgV l) rfl rfl rfl ?_ ?_ (calls_NamesFBQ l hl)
  · simp only [rgH, List.cons_append, List.nil_append, List.all_cons, List.all_nil, Bool.and_true, Bool.and_eq_true]
    exact ⟨rfl, okM_entR l, frs_bytes _⟩
  · intro E vals hr hv
    obtain ⟨u, rfl, k⟩ := hv.one
    cases k with
    | ptr _ _ _ _ _ v hm hl =>
      obtain ⟨b, hb, _⟩ := (hl 1 (by rw [hr.hl]; rfl)).2 rfl
      have ho := hr.orow 0 _ _ rfl hb
      rcases ho with ⟨h, _⟩ | ⟨b', c, fz, h1, h2, h3, h4, h5⟩
      · cases h
      · obtain ⟨u, _, h6⟩ := (h5 0 _ rfl).2 0 (.mp 1) rfl
        cases h6 with
        | mp _ b hm' _ => exact hm'
def kNamesBQ : C1 := C1.mby (hCons hFile hNil) (fun d => d.1.1.length < 50) (fun d => .own 2 1 d.1.1.length) (fun d => rgH d.1.1 ++ [.arr 5 1 (ofBytes (srt (keysQ d.1.1)))])
theorem ok_NamesBQ : C1OK Try.prog 49 kNamesBQ := C1OK.mby (by kernel_rfl) (fun d h => calls_NamesBQ d.1.1 h) (fun _ _ => by show 2 ≤ 3; omega)
end Go.Pg
