/- Bytes are sorted, fewer than 50; the marks' names. -/
import Derived.Test.YtohpkjpipihdoaaPgFx7
namespace Go.Pg
open Go Go.Proofs

theorem pdqL_srt (l : List UInt8) (lim : Nat) : pdqL 0 l.length lim true true l = srt l := by
  have h := Sort.pdq_sorts ltB swoB l.toArray 0 l.length lim true true (Nat.zero_le _) (by simp) (Or.inl rfl)
  have e : l.toArray.size = l.length := by simp
  unfold pdqL
  rw [← e] at h ⊢
  exact Sort.sorted_unique_holds swoB (fun x y h1 h2 => by simp only [ltB, decide_eq_false_iff_not] at h1 h2; exact UInt8.toNat_inj.1 (by omega)) l.toArray _ h.1 h.2

set_option maxRecDepth 20000 in
set_option maxHeartbeats 4000000 in
theorem calls_SortB (l : List UInt8) (hl : l.length < 50) :
    CallsR Try.prog 60 [.own 0 1 l.length] [.arr 5 1 (ofBytes l)] (.tuple []) [.arr 5 1 (ofBytes (srt l))] := by
  refine callsR_of (mrg := true) (dyn := []) (CtrOK.cons ok_Len (CtrOK.cons (ok_pdq 50) (CtrOK.nil _))) mixed Try.func60 rfl (by simp [Try.ntmps60]) (by kernel_rfl) ?_
  rw [show Try.f60.results.toList = [] from by kernel_rfl]
  have e : IntKind.u64.wrap (l.length : Int) = (l.length : Int) := by rw [IntKind.wrap_u64]; omega
  have hb : Lib.bitLen l.length ≤ 6 := by
    rw [bitLen64 _ (by omega)]
    exact (Sort.bitsLen_le_iff _ 6).2 (by omega)
  simp (maxSteps := 4000000) only [↓wpA_H, ↓wpH_seq, ↓wpH_region, bselH_false, runH_nil, runH_cons, gw, gselH_plain, ↓chk, justK, ↓oneK, ↓pureK, envOf, ↓thenA_normal, ↓stepEv, opnd, Pg.look, Bool.not_false, Bool.false_eq_true, false_implies, implies_true, true_and, and_true, valV, heapV, footV, alives, aliveO, nxtQ, hdS, pairsA, frzA, closeQ_nil, closeQ_succ, diagQ_zero, diagQ_succ, ofV, ofLeaf, retA, resK, tupA, subA, subQ, ptrsE, pairsO, frzO, subF, subG, pickOf, assocN, pairsE, pairsC, pairsL, frzE, frzC, frzL, frzH, Pg.freeze, List.foldl_nil, subOs, subO, subEv, subV_succ, subM, subL, slen, ↓callT, callC, callV, callH, normArgs, normA, resL, res8_eq, res_succ, resM, shiftR, shift1, List.getElem?_cons_zero, Option.getD_some, reduceCtorEq, Nat.reduceEqDiff, List.nil_append, List.append_nil, List.cons_append, List.length_cons, List.length_nil, List.map_cons, List.map_nil, List.set_cons_zero, Nat.zero_add, Int.reduceToNat, ite_true, ite_false, Option.some.injEq, AV.int.injEq, Prod.mk.injEq, ne_eq, not_false_eq_true, List.all_cons, List.all_nil, Bool.and_self, and_self, exists_eq_left', cInt_dec, length_ofBytes, Int.reduceLE, decL_byte, lOne_dec, pureB_bytes, List.contains_nil, Int.cast_ofNat_Int, List.range'_zero, C1by_ns, C1by_pre, C1by_r, C1by_H, optP_some, optV_some, optH_some, Int.toNat_natCast, Nat.sub_self, Nat.zero_lt_succ, C1by_it, regH_none, isNext, nextF, nextG, selC_false, ↓msel, muC, ↓callP, ↓callU, ↓callUV, ↓callUH, ↓callUF, C1by_mu, C1mby_mu, runM_eq, mkM_some, hNil_dec, hCons_dec, app3_some, hP_dec, hP1_some, hP2_some, hO1_some, hO2_arr, hOwn_dec, pickF, nodupB, somes, fresh, gids, putO, ren, renL, renO, tk3, tk32, tk108, kLen, kPdq, renL_bytes, e]
  rw [pdqL_srt]
  exact ⟨⟨by omega, by omega⟩, ⟨by omega, by omega, by omega, by omega, by omega⟩, by decide, subX_eq rfl (pureB_bytes _)⟩

theorem calls_SortedB (l : Mks) (hl : l.length < 50) : CallsR Try.prog 47 [aKeys l] [] (.own 0 1 l.length) [.arr 5 1 (ofBytes (srt (keysOf l)))] := by
  intro E vals hr hv
  obtain ⟨g, rfl, kg⟩ := hv.one
  refine (pass_Sorted E.W g (fun v w'' => ∃ E', E'.W = w'' ∧ VR E' (.own 0 1 l.length) v ∧ Rel [.arr 5 1 (ofBytes (srt (keysOf l)))] E' ∧ Step [] E [.arr 5 1 (ofBytes (srt (keysOf l)))] E') ?_).mono fun e W' ⟨v, he, E', h1, h2, h3, h4⟩ => ⟨v, E', he, h1, h2, h3, h4⟩
  refine pass_Collect E.W g _ ?_
  refine (calls_AppendSeq l (by omega) E #[.slice none 0 0, g] hr ⟨rfl, fun i c hc => ?_⟩).mono fun e W' ⟨t, v, E1, hx, he, hW, hvr, hr1, hst⟩ => ⟨v, he, ?_⟩
  · match i, hc with
    | 0, hc => cases hc; exact .nls
    | 1, hc => cases hc; exact kg
    | i + 2, hc => simp at hc
  · subst hW
    have htl : t.length = l.length := by rw [hx.length_eq]; simp [keysOf]
    refine (calls_SortB t (by omega) E1 #[v] hr1 ⟨rfl, fun i c hc => ?_⟩).mono fun e W'' ⟨u, E2, he, hW, _, hr2, hst2⟩ => ⟨⟨u, he⟩, E2, hW, ?_, ?_, ?_⟩
    · match i, hc with
      | 0, hc => cases hc; exact hvr
      | i + 1, hc => simp at hc
    · rw [← htl]; exact hvr.mono (hst2.ext hr1)
    · rw [srt_perm hx] at hr2; exact hr2
    · rw [srt_perm hx] at hst2; exact hst.trans hst2
def kSortedB : C1 := C1.by [.id] lSorted (fun d => d.length < 50) (fun d => .own 0 1 d.length) (fun d => [.arr 5 1 (ofBytes (srt (keysOf d)))])
theorem ok_SortedB : C1OK Try.prog 47 kSortedB := C1OK.by (by kernel_rfl) (fun d h => calls_SortedB d h) (fun _ => rfl) (fun d => by simp [okObj, pureB_bytes])

set_option maxRecDepth 20000 in
set_option maxHeartbeats 4000000 in
theorem calls_NamesFB (l : Mks) (hl : l.length < 50) : CallsR Try.prog 25 [.ptr 0 1 1 0 0] (mkF l) (.own 2 1 l.length) (mkF l ++ [.arr 5 1 (ofBytes (srt (keysOf l)))]) := by
  refine callsR_of (mrg := true) (dyn := []) (CtrOK.cons ok_Keys (CtrOK.cons ok_SortedB (CtrOK.nil _))) mixed Try.func25 rfl (by simp [Try.ntmps25]) (by kernel_rfl) ?_
  rw [show Try.f25.results.toList = [.tmp 2] from by kernel_rfl]
  simp (maxSteps := 4000000) only [↓wpA_H, ↓wpH_ret, ↓wpH_seq, ↓wpH_region, bselH_false, runH_nil, runH_cons, gw, gselH_plain, ↓chk, justK, noW, ↓oneK, ↓pureK, ↓heapK, envOf, ↓thenA_normal, ↓stepEv, opnd, Pg.look, Bool.and_true, Bool.false_eq_true, false_implies, implies_true, true_and, and_true, valV, heapV, footV, alives, aliveO, nxtQ, hdS, pairsA, frzA, closeQ_nil, closeQ_succ, diagQ_zero, diagQ_succ, Nat.reduceAdd, ofV, ofLeaf, retA, resK, tupA, subA, subQ, ptrsE, pairsO, frzO, subF, subG, pickOf, assocN, pairsE, pairsC, pairsL, pairs0, frzE, frzC, frzL, frz0, frzH, Pg.freeze, List.foldl_nil, List.foldl_cons, subOs, subO, subEv, subV_succ, subM, ldCells, objAt, ↓callT, callC, callV, callH, normArgs, normA, resL, res8_eq, res_succ, resM, shiftR, shift1, AV.cells, TK.cells, AV.pureLeaf, AV.pureB, frzAt, List.getElem?_cons_succ, List.getElem?_cons_zero, Option.getD_some, reduceCtorEq, Nat.reduceEqDiff, Nat.reduceAdd, Nat.reduceLT, List.nil_append, List.append_nil, List.cons_append, List.length_cons, List.length_nil, List.map_cons, List.map_nil, Nat.zero_add, ite_true, ite_false, Option.some.injEq, Prod.mk.injEq, List.all_cons, List.all_nil, and_self, exists_eq_left', lOne_dec, List.contains_nil, List.range'_zero, C1by_ns, C1by_pre, C1by_r, C1by_H, optP_some, optV_some, optH_some, List.getD_cons_zero, Nat.add_zero, Nat.lt_irrefl, Nat.zero_lt_succ, C1by_it, regH_none, isNext, nextF, nextG, selC_false, ↓msel, muC, ↓callP, C1by_mu, mapAt, List.range'_succ, tk81, tk83, dz83, kKeys, kSortedB, aKeys, lSorted_dec, cFmPos_dec, mkF]
  refine ⟨hl, by decide, subX_one ?_, subX_eq rfl (pureB_bytes _)⟩
  simp (maxSteps := 4000000) only [subV_succ, subM, subL, AV.cells, List.getElem?_cons_succ, List.getElem?_cons_zero, and_self]
theorem calls_NamesB (l : Mks) (hl : l.length < 50) : CallsR Try.prog 25 [.ptr 0 1 1 0 0] (mkH l) (.own 2 1 l.length) (mkH l ++ [.arr 5 1 (ofBytes (srt (keysOf l)))]) := by
  refine callsR_thaw (id := 1) (es := encE cByte cPos l) rfl rfl rfl ?_ ?_ (calls_NamesFB l hl)
  · simp only [mkH, List.cons_append, List.nil_append, List.all_cons, List.all_nil, Bool.and_true, Bool.and_eq_true]
    exact ⟨rfl, frs_entE l, frs_bytes _⟩
  · intro E vals hr hv
    obtain ⟨u, rfl, k⟩ := hv.one
    cases k with
    | ptr _ _ _ _ _ v hm hl =>
      obtain ⟨b, hb, _⟩ := (hl 1 (by rw [hr.hl]; rfl)).2 rfl
      have ho := hr.orow 0 _ _ rfl hb
      rcases ho with ⟨h, _⟩ | ⟨b', c, fz, h1, h2, h3, h4, h5⟩
      · cases h
      · obtain ⟨u, _, h6⟩ := (h5 0 _ rfl).2 0 (.mp 1) rfl
        cases h6 with
        | mp _ b hm' _ => exact hm'
def kNamesB : C1 := C1.mby (hCons hMarks hNil) (fun d => d.1.1.length < 50) (fun d => .own 2 1 d.1.1.length) (fun d => mkH d.1.1 ++ [.arr 5 1 (ofBytes (srt (keysOf d.1.1)))])
theorem ok_NamesB : C1OK Try.prog 25 kNamesB := C1OK.mby (by kernel_rfl) (fun d h => calls_NamesB d.1.1 h) (fun _ _ => by show 2 ≤ 3; omega)
end Go.Pg
