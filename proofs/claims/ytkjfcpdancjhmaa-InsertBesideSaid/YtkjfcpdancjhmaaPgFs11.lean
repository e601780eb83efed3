/- Keys are typed, one by one. -/
import Derived.Test.YtkjfcpdancjhmaaPgFs10
namespace Go.Pg
open Go Go.Proofs

/-- So many lines, so long. -/
def fits (n b : Nat) (ls : Ls) : Prop := ls.length ≤ n ∧ ∀ s ∈ ls, s.length ≤ b

theorem fits_getD {n b : Nat} {ls : Ls} (h : fits n b ls) (i : Nat) : (ls.getD i []).length ≤ b := by
  rw [List.getD_eq_getElem?_getD]
  cases e : ls[i]? with
  | none => simp
  | some s => exact h.2 s (List.mem_of_getElem? e)
theorem fits_small {n b : Nat} {ls : Ls} (h : fits n b ls) (hn : n ≤ 1099511627776) (hb : b ≤ 1099511627776) : small ls :=
  ⟨Nat.le_trans h.1 hn, fun i => Nat.le_trans (fits_getD h i) hb⟩
theorem fits_mono {n b n' b' : Nat} {ls : Ls} (h : fits n b ls) (hn : n ≤ n') (hb : b ≤ b') : fits n' b' ls :=
  ⟨Nat.le_trans h.1 hn, fun s hs => Nat.le_trans (h.2 s hs) hb⟩

theorem typ_cases (ls : Ls) (p f : Int × Int) (m : Int) (k : UInt8) : typ ls p f m k = nothing ∨
    (place ls p.1 p.2 = true ∧ (typ ls p f m k).2.2 = true ∧ (typ ls p f m k).1.1 = p.1 ∧ (typ ls p f m k).1.2.1 = [ls.getD p.1.toNat []]) := by
  unfold typ
  dsimp only
  split
  · next h =>
    have hp : place ls p.1 p.2 = true := by simp only [Bool.and_eq_true] at h; exact h.1
    split
    · exact .inr ⟨hp, rfl, rfl, rfl⟩
    · split
      · exact .inr ⟨hp, rfl, rfl, rfl⟩
      · split
        · exact .inr ⟨hp, rfl, rfl, rfl⟩
        · exact .inl rfl
  · exact .inl rfl

theorem typ_fits {n b : Nat} {ls : Ls} (h : fits n b ls) (p f : Int × Int) (m : Int) (k : UInt8) : (typ ls p f m k).1.2.1.length ≤ 1 ∧ fits 2 (b + 1) (typ ls p f m k).1.2.2 := by
  have hs := fits_getD h p.1.toNat
  have h0 : fits 2 (b + 1) [] := ⟨by simp, by simp⟩
  unfold typ
  dsimp only
  split
  · split
    · refine ⟨by simp, by simp, fun s hs' => ?_⟩
      simp only [List.mem_singleton] at hs'
      subst hs'
      simp only [List.length_append, List.length_take, List.length_cons, List.length_nil]
      split
      · simp only [List.length_drop]; omega
      · simp only [List.length_drop]; omega
    · split
      · refine ⟨by simp, by simp, fun s hs' => ?_⟩
        simp only [List.mem_cons, List.not_mem_nil, or_false] at hs'
        rcases hs' with rfl | rfl <;> simp only [List.length_take, List.length_drop] <;> omega
      · split
        · refine ⟨by simp, by simp, fun s hs' => ?_⟩
          simp only [List.mem_singleton] at hs'
          subst hs'
          simp only [List.length_append, List.length_take, List.length_drop]
          omega
        · exact ⟨by simp [nothing], h0⟩
  · exact ⟨by simp [nothing], h0⟩

theorem apply1_fits {n b n' b' : Nat} {ls : Ls} {x : Ch} (h : fits n b ls) (hx : fits n' b' x.2.2) (hb : b ≤ b') : fits (n + n') b' (apply1 ls x).1 := by
  unfold apply1
  split
  · exact ⟨by simp, by simp⟩
  · refine ⟨?_, fun s hs => ?_⟩
    · have := h.1
      have := hx.1
      simp only [List.length_append, List.length_take, List.length_drop]
      omega
    · simp only [List.mem_append] at hs
      rcases hs with (hs | hs) | hs
      · exact Nat.le_trans (h.2 s (List.mem_of_mem_take hs)) hb
      · exact hx.2 s hs
      · exact Nat.le_trans (h.2 s (List.mem_of_mem_drop hs)) hb

theorem applyL1 (ls : Ls) (x : Ch) : applyL ls [x] = if (apply1 ls x).2 = true then ((apply1 ls x).1, true) else ([], false) := rfl
theorem applyL1_fits {n b n' b' : Nat} {ls : Ls} {x : Ch} (h : fits n b ls) (hx : fits n' b' x.2.2) (hb : b ≤ b') : fits (n + n') b' (applyL ls [x]).1 := by
  rw [applyL1]
  split
  · exact apply1_fits h hx hb
  · exact ⟨by simp, by simp⟩

/-- Keys, one by one. -/
def typedL (ls : Ls) (p f : Int × Int) : List UInt8 → Ls × (Int × Int) × Bool
  | [] => (ls, p, true)
  | k :: r => if ((typ ls p f 1 k).2.2 && (applyL ls [(typ ls p f 1 k).1]).2) = true then typedL (applyL ls [(typ ls p f 1 k).1]).1 (typ ls p f 1 k).2.1 f r else ([], (0, 0), false)

set_option maxRecDepth 20000 in
set_option maxHeartbeats 4000000 in
theorem calls_typed (ls : Ls) (f : Int × Int) (ks : List UInt8) (h1 : fits 65536 65536 ls) (h2 : ks.length ≤ 65536) :
    CallsR Try.prog 23 [.sl 1 (ls.map .str), aPos f, .sl 1 (ofBytes ks)] []
      (.tuple [.sl 1 ((typedL ls f f ks).1.map .str), aPos (typedL ls f f ks).2.1, .bool (typedL ls f f ks).2.2]) [] := by
  obtain ⟨f1, f2⟩ := f
  refine callsR_of (mrg := true) (dyn := []) (CtrOK.cons ok_Type (CtrOK.cons ok_Apply (CtrOK.nil _))) mixed Try.func23 rfl (by simp [Try.ntmps23]) (by kernel_rfl) ?_
  rw [show Try.f23.results.toList = [.tmp 6, .cell 7 24, .tmp 8] from by kernel_rfl]
  simp (maxSteps := 4000000) only [↓wpA_H, ↓wpH_seq, ↓wpH_block, ↓wpH_loop, ↓wpH_region, bselH_false, runH_nil, runH_cons, gw, gselH_plain, ↓chk, justK, noW, ↓oneK, ↓pureK, ↓heapK, envOf, ↓thenA_normal, ↓stepEv, opnd, Pg.look, Bool.false_eq_true, implies_true, true_and, and_true, valV, heapV, footV, ofV, ofLeaf, ldCells, objAt, AV.cells, TK.cells, AV.definite, AV.leaf, AV.leafy, putCells, lay, List.getElem?_cons_succ, List.getElem?_cons_zero, Option.getD_some, reduceCtorEq, Nat.reduceEqDiff, Nat.reduceAdd, List.nil_append, List.append_nil, List.cons_append, List.length_cons, List.length_nil, List.set_cons_zero, List.set_cons_succ, Nat.zero_add, ite_true, ite_false, Option.some.injEq, List.all_cons, List.all_nil, Bool.and_self, and_self, exists_eq_left', List.contains_nil, List.getD_cons_zero, cutL, List.drop_zero, List.drop_succ_cons, List.take_succ_cons, List.take_zero, Nat.sub_zero, Nat.le_refl, List.drop_nil, List.take_nil, Nat.zero_lt_succ, tk24, tz24, dz24, kTyp, kApply, aTyped, aCh, aPos]
  refine loopH_intro (α := Nat × Ls × (Int × Int)) (fun x => ([(0, .sl 1 (x.2.1.map .str)), (2, .sl 1 (ofBytes ks)), (4, .ptr 0 2 1 0 0), (6, .nls), (7, .ptr 1 2 1 0 0), (8, .bool false), (9, .ptr 2 2 1 0 0), (10, .int .i64 x.1)], [.arr 24 2 [.agg [.int .i64 f1, .int .i64 f2]], .arr 24 2 [.agg [.int .i64 0, .int .i64 0]], .arr 24 2 [.agg [.int .i64 x.2.2.1, .int .i64 x.2.2.2]]]))
    (fun x => x.1 ≤ ks.length ∧ fits (65536 + 2 * x.1) (65536 + x.1) x.2.1 ∧ typedL x.2.1 x.2.2 (f1, f2) (ks.drop x.1) = typedL ls (f1, f2) (f1, f2) ks) (fun x => ks.length - x.1) (0, ls, (f1, f2)) ?_ ?_ ?_
  · simpa using h1
  · simp (maxSteps := 4000000) only [Pg.look, true_and, and_true, subA, subQ, ptrsE, pairsO, frzO, subF, subG, pickOf, assocN, pairsE, pairsC, pairsL, pairs0, frzE, frzC, frzL, frz0, frzH, Pg.freeze, List.foldl_nil, subOs, subO, subEv, subV, List.getElem?_cons_succ, List.getElem?_cons_zero, reduceCtorEq, Nat.reduceEqDiff, Nat.reduceAdd, List.nil_append, List.append_nil, List.cons_append, Nat.zero_add, ite_true, ite_false, and_self, Int.cast_ofNat_Int, Nat.lt_irrefl, Nat.not_lt_zero]
    exact ⟨rfl, subX_eq rfl rfl, subX_eq rfl rfl, subX_eq rfl rfl⟩
  · intro x hx
    obtain ⟨i, l, p1, p2⟩ := x
    simp only at hx
    simp (maxSteps := 4000000) only [↓wpA_H, ↓wpH_skip, ↓wpH_ret, ↓wpH_exit, ↓wpH_seq, ↓wpH_cond, ↓wpH_block, ↓wpH_region, iselH_if, bselH_false, runH_nil, runH_cons, gw, gselH_plain, gselH_if, kselH_1, cselH_bool, gkind, ↓chk, justK, noW, ↓oneK, ↓pureK, ↓heapK, ↓thenA_normal, ↓thenA_ret, ↓thenA_exit, ↓blockA_normal, ↓blockA_ret, ↓blockA_exit, ↓stepEv, opnd, Pg.look, binK, intOp, dstOf, Bool.false_eq_true, false_implies, implies_true, imp_self, true_and, and_true, pickC, pickV, unc, gof, mux, mergeK, condsL, valV, heapV, footV, binV, intV, mergeable, look_stripE, ofV, ofLeaf, sameK, retA, resK, tupA, subA, subQ, ptrsE, pairsO, frzO, subF, subG, pickOf, assocN, pairsE, pairsC, pairsL, pairs0, frzE, frzC, frzL, frz0, frzH, Pg.freeze, List.foldl_nil, List.foldl_cons, subOs, subO, subEv, subV, subL, slen, ldCells, objAt, ↓callT, callC, callV, callH, normArgs, normA, normC, normL, normE, resL, res, shiftR, shift1, AV.cells, TK.cells, AV.definite, AV.leaf, AV.leafy, AV.pureLeaf, AV.pureB, putCells, lay, buildL, frzAt, Op.operands, List.getElem?_toArray, List.getElem?_cons_succ, List.getElem?_cons_zero, List.getElem?_nil, Option.bind_some, Option.getD_some, reduceCtorEq, Nat.reduceEqDiff, Nat.reduceAdd, List.nil_append, List.append_nil, List.cons_append, List.length_cons, List.length_nil, List.map_cons, List.map_nil, List.set_cons_zero, List.set_cons_succ, Nat.zero_add, ite_true, ite_false, Option.some.injEq, Option.isSome_some, AV.int.injEq, AV.agg.injEq, Prod.mk.injEq, Bool.if_true_left, decide_eq_true_eq, decide_eq_false_iff_not, Int.not_lt, List.all_cons, List.all_nil, Bool.and_self, and_self, Bool.not_eq_true', exists_eq_left', pickOK_nil, cInt_dec, List.toList_toArray, rg1, length_ofBytes, getD_ofBytes, cByte_dec, cSl_dec, cAgg_dec, lOne_dec, lCons_dec, dec2_some, resIn, List.contains_nil, beq_self_eq_true, decL_nil, decL_cons, consO_some, List.range'_zero, Nat.reducePow, decL_str, C1by_ns, C1by_pre, C1by_r, C1by_H, optP_some, optV_some, optH_some, Int.toNat_natCast, List.getD_cons_zero, cutL, List.drop_zero, List.drop_succ_cons, List.take_succ_cons, List.take_zero, Nat.sub_zero, Nat.reduceLeDiff, Nat.le_refl, Nat.lt_irrefl, Nat.one_mul, List.drop_nil, List.take_nil, Nat.not_lt_zero, Nat.zero_lt_succ, tk5, dz5, tk24, tz24, dz24, tk31, tk33, tz33, dz33, eb33, tk47, kTyp, kApply, aTyped, aCh, aPos]
    obtain ⟨hx1, hx2, hx3⟩ := hx
    refine ⟨fun hi => ?_, fun hi => ?_⟩
    · have hd := drop_getD ks i 0 (by omega)
      have hf := typ_fits hx2 (p1, p2) (f1, f2) 1 (ks.getD i 0)
      rw [hd, typedL] at hx3
      have hfa := applyL1_fits hx2 (x := (typ l (p1, p2) (f1, f2) 1 (ks.getD i 0)).1) hf.2 (by omega)
      refine ⟨by omega, fits_small hx2 (by omega) (by omega), ⟨Nat.le_trans hx2.1 (by omega), fun x hx => ?_⟩, fun h4 => ?_, fun h4 => ?_⟩
      · simp only [List.mem_singleton] at hx
        subst hx
        exact ⟨Nat.le_trans hf.1 (by omega), Nat.le_trans hf.2.1 (by omega)⟩
      · rw [if_neg ?_] at hx3
        · rw [← hx3]
          exact ⟨rfl, ⟨rfl, rfl⟩, rfl⟩
        · intro h5
          simp only [Bool.and_eq_true] at h5
          simp only [Bool.or_eq_true, decide_eq_true_eq, Bool.not_eq_true'] at h4
          rcases h4 with h4 | h4
          · rw [h5.1] at h4; cases h4
          · have h6 := h5.2
            rw [h4] at h6; cases h6
      · simp only [Bool.or_eq_false_iff, decide_eq_false_iff_not, Bool.not_eq_false, Bool.not_eq_false'] at h4
        rw [if_pos (by rw [Bool.and_eq_true]; exact h4)] at hx3
        refine ⟨(i + 1, (applyL l [(typ l (p1, p2) (f1, f2) 1 (ks.getD i 0)).1]).1, (typ l (p1, p2) (f1, f2) 1 (ks.getD i 0)).2.1), ⟨by show i + 1 ≤ _; omega, fits_mono hfa (by show _ ≤ 65536 + 2 * (i + 1); omega) (by show _ ≤ 65536 + (i + 1); omega), hx3⟩, by show _ - (i + 1) < _; omega, rfl, ⟨subX_eq rfl rfl, subX_eq rfl rfl, subX_eq rfl rfl⟩, rfl, by rw [wrap64 (by omega) (by omega)]; rfl⟩
    · rw [List.drop_eq_nil_of_le (by omega), typedL] at hx3
      rw [← hx3]
      exact ⟨rfl, ⟨rfl, rfl⟩, rfl⟩

def kTyped : C1 := C1.by [.sl 1 [], .id, .sl 1 []] (lCons cStrs (lCons (cAgg lPos) (lOne (cSl 1 cByte)))) (fun d => fits 65536 65536 d.1 ∧ d.2.2.length ≤ 65536)
  (fun d => .tuple [.sl 1 ((typedL d.1 d.2.1 d.2.1 d.2.2).1.map .str), aPos (typedL d.1 d.2.1 d.2.1 d.2.2).2.1, .bool (typedL d.1 d.2.1 d.2.1 d.2.2).2.2]) (fun _ => [])
theorem ok_typed : C1OK Try.prog 23 kTyped := C1OK.by (by kernel_rfl) (fun d h => calls_typed d.1 d.2.1 d.2.2 h.1 h.2) (fun _ => rfl) (fun _ => rfl)
end Go.Pg
