/- Lines put in or taken out ahead of a mark. A change and its inverse. -/
import Derived.Test.YtohpkjpipihdoaaPgFx2
namespace Go.Pg
open Go Go.Proofs

theorem cLaw13 : CtrOK Try.prog [(15, kKnown13), (18, kNew), (19, kSet), (23, kGet), (21, kAdjust)] :=
  CtrOK.cons ok_known13 (CtrOK.cons ok_New (CtrOK.cons ok_Set (CtrOK.cons ok_Get (CtrOK.cons ok_Adjust (CtrOK.nil _)))))

theorem shiftS (x a o w : Int) (h1 : 0 ≤ x) (h2 : x ≤ 100000) (h3 : 0 ≤ a) (h4 : a ≤ 1000) (h5 : 0 ≤ o) (h6 : o ≤ 1000) (h7 : 0 ≤ w) (h8 : w ≤ 1000) :
    shiftM x a o w = if x < a then (x, true) else if x - a ≥ o then (x + w - o, true) else if x - a < w then (x, true) else (0, false) := by
  have e1 : wrong a = false := by simp [wrong]; omega
  have e2 : wrong o = false := by simp [wrong]; omega
  have e3 : wrong w = false := by simp [wrong]; omega
  unfold shiftM
  rw [e1, e2, e3]
  simp only [Bool.false_or, decide_eq_true_eq]
  by_cases h : x < a
  · rw [if_pos h, if_pos h]
  · rw [if_neg h, if_neg h]
    have e4 : w64 (x - a) = x - a := wrap64 (by omega) (by omega)
    have e5 : w64 (w - o) = w - o := wrap64 (by omega) (by omega)
    have e6 : w64 (x + (w - o)) = x + w - o := by rw [show x + (w - o) = x + w - o by omega]; exact wrap64 (by omega) (by omega)
    rw [e4, e5, e6]
theorem look_one (k : UInt8) (x y a o w : Int) : look1 k (adjM a o w (upd k (x, y) [])) = if (shiftM x a o w).2 = true then some ((shiftM x a o w).1, y) else none := by
  by_cases h : (shiftM x a o w).2 = true
  · simp [upd, adjM, stp, look1, h]
  · simp [upd, adjM, stp, look1, h]
theorem look_oneS (k : UInt8) (x y a o w : Int) (h1 : 0 ≤ x) (h2 : x ≤ 100000) (h3 : 0 ≤ a) (h4 : a ≤ 1000) (h5 : 0 ≤ o) (h6 : o ≤ 1000) (h7 : 0 ≤ w) (h8 : w ≤ 1000) :
    look1 k (adjM a o w (upd k (x, y) [])) = if x < a then some (x, y) else if x - a ≥ o then some (x + w - o, y) else if x - a < w then some (x, y) else none := by
  rw [look_one, shiftS x a o w h1 h2 h3 h4 h5 h6 h7 h8]
  by_cases c1 : x < a
  · simp [c1]
  · by_cases c2 : x - a ≥ o
    · simp [c1, c2]
    · by_cases c3 : x - a < w <;> simp [c1, c2, c3]

set_option maxRecDepth 20000 in
set_option maxHeartbeats 4000000 in
theorem calls_MarksLines (line at_ n : UInt8) (inn : Bool) : CallsR Try.prog 6 [.int .u8 line.toNat, .int .u8 at_.toNat, .int .u8 n.toNat, .bool inn] [] (.bool true) [] := by
  refine callsR_of (mrg := false) (dyn := []) (cLaw13) mixed Try.func6 rfl (by simp [Try.ntmps6]) (by kernel_rfl) ?_
  rw [show Try.f6.results.toList = [.tmp 8] from by kernel_rfl]
  have b1 := line.toNat_lt
  have b2 := at_.toNat_lt
  have b3 := n.toNat_lt
  have w1 : IntKind.i64.wrap (line.toNat : Int) = (line.toNat : Int) := wrap64 (by omega) (by omega)
  have w2 : IntKind.i64.wrap (at_.toNat : Int) = (at_.toNat : Int) := wrap64 (by omega) (by omega)
  have w3 : IntKind.i64.wrap (n.toNat : Int) = (n.toNat : Int) := wrap64 (by omega) (by omega)
  have n1 : nameOk 107 = true := rfl
  have hN : ∀ x, (keysOf (upd 107 x [])).Nodup := fun x => by simp [keysOf, upd]
  cases inn
  · simp (maxSteps := 4000000) only [↓wpA_H, ↓wpH_skip, ↓wpH_ret, ↓wpH_seq, ↓wpH_cond, ↓wpH_region, ↓iselH_true, ↓iselH_false, iselH_if, bselH_false, runH_nil, runH_cons, ↓fixG, setG, gw, gselH_plain, gselH_if, kselH_0, kselH_2, cselH_bool, gkind, ↓chk, pickO, justK, noW, ↓oneK, ↓pureK, ↓heapK, envOf, ↓thenA_normal, ↓stepEv, opnd, Pg.look, binK, intOp, cellsEq, leafEq, dstOf, Bool.and_true, Bool.not_false, Bool.not_true, Bool.false_eq_true, Bool.true_eq_false, false_implies, implies_true, imp_self, true_and, and_true, pickC, pickV, unc, gof, mux, valV, heapV, footV, binV, intV, alives, closeQ_nil, diagQ_zero, Nat.reduceAdd, mergeable, ofV, ofLeaf, retA, resK, tupA, subA, subQ, ptrsE, frzO, subF, subG, pickOf, frzE, frzC, frz0, frzH, Pg.freeze, List.foldl_nil, subOs, subEv, subV_succ, subM, ldCells, objAt, ↓callT, callC, callV, callH, normArgs, normA, resL, res8_eq, res_succ, resM, shiftR, shift1, AV.cells, TK.cells, AV.definite, AV.leaf, AV.leafy, putCells, lay, buildL, List.getElem?_toArray, List.getElem?_cons_succ, List.getElem?_cons_zero, Option.bind_some, Option.getD_some, reduceCtorEq, Nat.reduceEqDiff, Nat.reduceAdd, Nat.reduceSub, List.nil_append, List.append_nil, List.cons_append, List.length_cons, List.length_nil, List.map_cons, List.map_nil, List.set_cons_zero, List.set_cons_succ, Nat.zero_add, Int.reduceToNat, ite_true, ite_false, Option.some.injEq, Option.isSome_some, AV.agg.injEq, Prod.mk.injEq, decide_eq_true_eq, decide_eq_false_iff_not, Int.not_le, Int.not_lt, ne_eq, not_false_eq_true, List.all_cons, List.all_nil, Bool.and_self, and_self, Bool.not_eq_true', exists_eq_left', pickOK_nil, cInt_dec, cByte_lit, Int.reduceLE, Int.reduceLT, UInt8.reduceOfNat, lNil_dec, List.contains_cons, List.contains_nil, Nat.reduceBEq, Bool.or_self, List.range'_zero, C1by_ns, C1by_pre, C1by_r, C1by_H, optP_some, optV_some, optH_some, List.getD_cons_zero, List.getD_cons_succ, cutL, List.drop_zero, List.drop_succ_cons, List.take_succ_cons, List.take_zero, Nat.sub_zero, Nat.sub_self, Nat.reduceLeDiff, Nat.le_refl, List.drop_nil, List.take_nil, Nat.zero_lt_succ, C1by_it, regH_none, isNext, nextF, nextG, selC_false, ↓msel, muC, ↓callP, ↓callU, ↓callUV, ↓callUH, ↓callUF, C1by_mu, C1mby_mu, runM_eq, mkM_some, hNil_dec, hCons_dec, app3_some, hP_dec, hP1_some, hP2_some, hO1_some, hM1_mp, hMp_dec, hB1_some, hB2_arr, hBox_dec, hAgg_dec, decE_nil, encE_nil, pickF, nodupB, somes, fresh, gids, gid, putO, ren, renL, renO, List.range'_succ, tk3, tk4, tk5, tk37, tz37, dz37, eq37, kKnown13, kNew, kSet, kGet, kAdjust, hMarks, cPos_dec, decE_pos, mkH, n1, w1, w2, w3, hN]
    rw [look_oneS 107 _ 7 _ _ _ (by omega) (by omega) (by omega) (by omega) (by omega) (by omega) (by omega) (by omega)]
    have e1 : IntKind.i64.wrap ((at_.toNat : Int) + (n.toNat : Int)) = (at_.toNat : Int) + n.toNat := wrap64 (by omega) (by omega)
    have e2 : IntKind.i64.wrap ((line.toNat : Int) - (n.toNat : Int)) = (line.toNat : Int) - n.toNat := wrap64 (by omega) (by omega)
    rw [e1, e2]
    generalize (line.toNat : Int) = x at *
    generalize (at_.toNat : Int) = a at *
    generalize (n.toNat : Int) = m at *
    by_cases c1 : x < a
    · rw [if_pos c1]
      refine ⟨fun h => by omega, fun _ => ⟨fun _ => by simp, fun h => by simp at h⟩⟩
    · rw [if_neg c1]
      by_cases c2 : x - a ≥ m
      · rw [if_pos c2, show decide (x < a + m) = false from decide_eq_false (by omega)]
        refine ⟨fun _ => ⟨fun _ _ => by simp, fun h => by simp at h⟩, fun h => by omega⟩
      · rw [if_neg c2, if_neg (by omega), show decide (x < a + m) = true from decide_eq_true (by omega)]
        refine ⟨fun _ => ⟨fun _ h => by omega, fun h => by simp at h⟩, fun h => by omega⟩
  · simp (maxSteps := 4000000) only [↓wpA_H, ↓wpH_skip, ↓wpH_ret, ↓wpH_seq, ↓wpH_cond, ↓wpH_region, ↓iselH_true, ↓iselH_false, iselH_if, bselH_false, runH_nil, runH_cons, ↓fixG, setG, gw, gselH_plain, gselH_if, kselH_0, kselH_2, cselH_bool, gkind, ↓chk, pickO, justK, noW, ↓oneK, ↓pureK, ↓heapK, envOf, ↓thenA_normal, ↓stepEv, opnd, Pg.look, binK, intOp, cellsEq, leafEq, dstOf, Bool.and_true, Bool.not_false, Bool.not_true, Bool.false_eq_true, Bool.true_eq_false, false_implies, implies_true, imp_self, true_and, and_true, pickC, pickV, unc, gof, mux, valV, heapV, footV, binV, intV, alives, closeQ_nil, diagQ_zero, Nat.reduceAdd, mergeable, ofV, ofLeaf, retA, resK, tupA, subA, subQ, ptrsE, frzO, subF, subG, pickOf, frzE, frzC, frz0, frzH, Pg.freeze, List.foldl_nil, subOs, subEv, subV_succ, subM, ldCells, objAt, ↓callT, callC, callV, callH, normArgs, normA, resL, res8_eq, res_succ, resM, shiftR, shift1, AV.cells, TK.cells, AV.definite, AV.leaf, AV.leafy, putCells, lay, buildL, List.getElem?_toArray, List.getElem?_cons_succ, List.getElem?_cons_zero, Option.bind_some, Option.getD_some, reduceCtorEq, Nat.reduceEqDiff, Nat.reduceAdd, Nat.reduceSub, List.nil_append, List.append_nil, List.cons_append, List.length_cons, List.length_nil, List.map_cons, List.map_nil, List.set_cons_zero, List.set_cons_succ, Nat.zero_add, Int.reduceToNat, ite_true, ite_false, Option.some.injEq, Option.isSome_some, AV.agg.injEq, Prod.mk.injEq, decide_eq_true_eq, decide_eq_false_iff_not, Int.not_le, ne_eq, not_false_eq_true, List.all_cons, List.all_nil, Bool.and_self, and_self, exists_eq_left', pickOK_nil, cInt_dec, cByte_lit, Int.reduceLE, Int.reduceLT, UInt8.reduceOfNat, lNil_dec, List.contains_cons, List.contains_nil, Nat.reduceBEq, Bool.or_self, List.range'_zero, C1by_ns, C1by_pre, C1by_r, C1by_H, optP_some, optV_some, optH_some, List.getD_cons_zero, List.getD_cons_succ, cutL, List.drop_zero, List.drop_succ_cons, List.take_succ_cons, List.take_zero, Nat.sub_zero, Nat.sub_self, Nat.reduceLeDiff, Nat.le_refl, List.drop_nil, List.take_nil, Nat.zero_lt_succ, C1by_it, regH_none, isNext, nextF, nextG, selC_false, ↓msel, muC, ↓callP, ↓callU, ↓callUV, ↓callUH, ↓callUF, C1by_mu, C1mby_mu, runM_eq, mkM_some, hNil_dec, hCons_dec, app3_some, hP_dec, hP1_some, hP2_some, hO1_some, hM1_mp, hMp_dec, hB1_some, hB2_arr, hBox_dec, hAgg_dec, decE_nil, encE_nil, pickF, nodupB, somes, fresh, gids, gid, putO, ren, renL, renO, List.range'_succ, tk3, tk4, tk5, tk37, tz37, dz37, eq37, kKnown13, kNew, kSet, kGet, kAdjust, hMarks, cPos_dec, decE_pos, mkH, n1, w1, w2, w3, hN]
    rw [look_oneS 107 _ 7 _ _ _ (by omega) (by omega) (by omega) (by omega) (by omega) (by omega) (by omega) (by omega)]
    have e1 : IntKind.i64.wrap ((line.toNat : Int) + (n.toNat : Int)) = (line.toNat : Int) + n.toNat := wrap64 (by omega) (by omega)
    rw [e1]
    generalize (line.toNat : Int) = x at *
    generalize (at_.toNat : Int) = a at *
    generalize (n.toNat : Int) = m at *
    by_cases c1 : x < a
    · rw [if_pos c1]
      refine ⟨fun h => by omega, fun _ => ⟨fun _ => by simp, fun h => by simp at h⟩⟩
    · rw [if_neg c1, if_pos (by omega)]
      refine ⟨fun _ => ⟨fun _ => by simp, fun h => by simp at h⟩, fun h => by omega⟩
end Go.Pg
namespace Go.Pg
open Go Go.Proofs

theorem upd_new {ν : Type} (k : UInt8) (v : ν) (l : List (UInt8 × ν)) (h : k ∉ l.map (·.1)) : upd k v l = l ++ [(k, v)] := by
  induction l with
  | nil => rfl
  | cons p r ih =>
    simp only [List.map_cons, List.mem_cons, not_or] at h
    simp only [upd, if_neg (Ne.symm h.1), ih h.2, List.cons_append]
theorem look1_none {ν : Type} (k : UInt8) (l : List (UInt8 × ν)) (h : k ∉ l.map (·.1)) : look1 k l = none := by
  induction l with
  | nil => rfl
  | cons p r ih =>
    simp only [List.map_cons, List.mem_cons, not_or] at h
    simp only [look1, if_neg (Ne.symm h.1), ih h.2]
theorem adjM_keys (at_ old now : Int) (l : Mks) (k : UInt8) (h : k ∈ keysOf (adjM at_ old now l)) : k ∈ keysOf l := by
  obtain ⟨y, hy, rfl⟩ := List.mem_map.1 h
  obtain ⟨x, hx, hs⟩ := List.mem_filterMap.1 hy
  rw [stp_key hs]
  exact List.mem_map.2 ⟨x, hx, rfl⟩
theorem adjM_nodup (at_ old now : Int) (l : Mks) (h : (keysOf l).Nodup) : (keysOf (adjM at_ old now l)).Nodup := by
  induction l with
  | nil => exact h
  | cons x r ih =>
    obtain ⟨hx, hr⟩ := List.nodup_cons.1 h
    unfold adjM
    rw [List.filterMap_cons]
    split
    · exact ih hr
    · next y hy =>
      refine List.nodup_cons.2 ⟨fun hm => hx ?_, ih hr⟩
      have hm : y.1 ∈ keysOf (adjM at_ old now r) := hm
      rw [stp_key hy] at hm
      exact adjM_keys at_ old now r _ hm
theorem look1_adj (k : UInt8) (at_ old now : Int) (l : Mks) (h : (keysOf l).Nodup) : look1 k (adjM at_ old now l) = (look1 k l).bind fun v => if (shiftM v.1 at_ old now).2 = true then some ((shiftM v.1 at_ old now).1, v.2) else none := by
  induction l with
  | nil => rfl
  | cons x r ih =>
    obtain ⟨hx, hr⟩ := List.nodup_cons.1 h
    have ih := ih hr
    by_cases hk : x.1 = k
    · simp only [look1, if_pos hk, Option.bind_some]
      by_cases hs : (shiftM x.2.1 at_ old now).2 = true
      · have e : adjM at_ old now (x :: r) = (x.1, ((shiftM x.2.1 at_ old now).1, x.2.2)) :: adjM at_ old now r := by
          unfold adjM; rw [List.filterMap_cons_some (by rw [stp, if_pos hs])]
        rw [e, if_pos hs]
        simp only [look1, if_pos hk]
      · have e : adjM at_ old now (x :: r) = adjM at_ old now r := by
          unfold adjM; rw [List.filterMap_cons_none (by rw [stp, if_neg hs])]
        rw [e, if_neg hs]
        refine look1_none k _ fun hm => hx ?_
        show x.1 ∈ keysOf r
        rw [hk]
        exact adjM_keys at_ old now r k hm
    · simp only [look1, if_neg hk]
      by_cases hs : (shiftM x.2.1 at_ old now).2 = true
      · have e : adjM at_ old now (x :: r) = (x.1, ((shiftM x.2.1 at_ old now).1, x.2.2)) :: adjM at_ old now r := by
          unfold adjM; rw [List.filterMap_cons_some (by rw [stp, if_pos hs])]
        rw [e]
        simp only [look1, if_neg hk, ih]
      · have e : adjM at_ old now (x :: r) = adjM at_ old now r := by
          unfold adjM; rw [List.filterMap_cons_none (by rw [stp, if_neg hs])]
        rw [e, ih]

/-- As many marks as there are lines. -/
def aft (lines : List UInt8) (n : Nat) : Mks := (List.range n).map fun i => (UInt8.ofNat (97 + i), (((lines.getD i 0).toNat : Int), (0 : Int)))
theorem aft_keys (lines : List UInt8) (n : Nat) : keysOf (aft lines n) = (List.range n).map fun i => UInt8.ofNat (97 + i) := by
  simp [keysOf, aft]
theorem u8_inj {i j : Nat} (hi : i < 100) (hj : j < 100) (h : UInt8.ofNat (97 + i) = UInt8.ofNat (97 + j)) : i = j := by
  have := congrArg UInt8.toNat h
  simp only [UInt8.toNat_ofNat'] at this
  omega
theorem aft_new (lines : List UInt8) (n : Nat) (hn : n < 100) : UInt8.ofNat (97 + n) ∉ keysOf (aft lines n) := by
  rw [aft_keys]
  intro h
  obtain ⟨i, hi, he⟩ := List.mem_map.1 h
  have := List.mem_range.1 hi
  have := u8_inj (by omega) hn he
  omega
theorem aft_succ (lines : List UInt8) (n : Nat) (hn : n < 100) : upd (UInt8.ofNat (97 + n)) (((lines.getD n 0).toNat : Int), (0 : Int)) (aft lines n) = aft lines (n + 1) := by
  rw [upd_new _ _ _ (aft_new lines n hn)]
  simp [aft, List.range_succ]
theorem aft_nodup (lines : List UInt8) (n : Nat) (hn : n < 100) : (keysOf (aft lines n)).Nodup := by
  induction n with
  | zero => exact List.nodup_nil
  | succ n ih =>
    have e : keysOf (aft lines (n + 1)) = keysOf (aft lines n) ++ [UInt8.ofNat (97 + n)] := by simp [aft_keys, List.range_succ]
    rw [e, List.nodup_append]
    refine ⟨ih (by omega), by simp, fun a ha b hb => ?_⟩
    rw [List.mem_singleton] at hb
    rintro rfl
    exact aft_new lines n (by omega) (by rw [← hb]; exact ha)
theorem aft_look (lines : List UInt8) (n i : Nat) (hn : n < 100) (hi : i < n) : look1 (UInt8.ofNat (97 + i)) (aft lines n) = some (((lines.getD i 0).toNat : Int), (0 : Int)) := by
  induction n with
  | zero => omega
  | succ n ih =>
    have app : ∀ (a b : Mks), look1 (UInt8.ofNat (97 + i)) (a ++ b) = (look1 (UInt8.ofNat (97 + i)) a).or (look1 (UInt8.ofNat (97 + i)) b) := by
      intro a b
      induction a with
      | nil => simp [look1]
      | cons x r ih => 
        simp only [List.cons_append, look1]
        split
        · rfl
        · exact ih
    have e : aft lines (n + 1) = aft lines n ++ [(UInt8.ofNat (97 + n), (((lines.getD n 0).toNat : Int), (0 : Int)))] := by simp [aft, List.range_succ]
    rw [e, app]
    by_cases h : i < n
    · rw [ih (by omega) h]; rfl
    · obtain rfl : i = n := by omega
      rw [look1_none _ _ (aft_new lines i (by omega))]
      simp [look1]
theorem shiftS2 (x a o w : Int) (h1 : 0 ≤ x) (h2 : x ≤ 255) (h3 : 0 ≤ a) (h4 : a ≤ 255) (h5 : 0 ≤ o) (h6 : o ≤ 255) (h7 : 0 ≤ w) (h8 : w ≤ 255) :
    ((if (shiftM x a o w).2 = true then some ((shiftM x a o w).1, (0 : Int)) else none).bind fun v : Int × Int => if (shiftM v.1 a w o).2 = true then some ((shiftM v.1 a w o).1, v.2) else none) =
      if x ≥ a ∧ x < a + o ∧ x - a ≥ w then none else some (x, 0) := by
  have E1 := shiftS x a o w h1 (by omega) h3 (by omega) h5 (by omega) h7 (by omega)
  by_cases c1 : x < a
  · have e2 := shiftS x a w o h1 (by omega) h3 (by omega) h7 (by omega) h5 (by omega)
    rw [if_pos c1] at E1 e2
    simp only [E1, e2, if_true, Option.bind_some]
    rw [if_neg (by omega)]
  · rw [if_neg c1] at E1
    by_cases c2 : x - a ≥ o
    · rw [if_pos c2] at E1
      have e2 := shiftS (x + w - o) a w o (by omega) (by omega) h3 (by omega) h7 (by omega) h5 (by omega)
      rw [if_neg (by omega), if_pos (by omega)] at e2
      simp only [E1, e2, if_true, Option.bind_some]
      rw [if_neg (by omega), show x + w - o + o - w = x by omega]
    · rw [if_neg c2] at E1
      by_cases c3 : x - a < w
      · rw [if_pos c3] at E1
        have e2 := shiftS x a w o h1 (by omega) h3 (by omega) h7 (by omega) h5 (by omega)
        rw [if_neg c1, if_neg (by omega), if_pos (by omega)] at e2
        simp only [E1, e2, if_true, Option.bind_some]
        rw [if_neg (by omega)]
      · rw [if_neg c3] at E1
        simp only [E1, Bool.false_eq_true, if_false, Option.bind_none]
        rw [if_pos (by omega)]

theorem calls_HPlaceM (k n : Int) (h0 : 0 < n) (h1 : n ≤ 9223372036854775807) (hk : -9223372036854775808 ≤ k ∧ k ≤ 9223372036854775807) :
    CallsR Try.prog 26 [.int .i64 k, .int .i64 n] [] (.int .i64 (k % n)) [] := by
  refine callsR_of (mrg := true) (dyn := []) (CtrOK.nil _) mixed Try.func26 rfl (by simp [Try.ntmps26]) (by kernel_rfl) ?_
  rw [show Try.f26.results.toList = [.tmp 4] from by kernel_rfl]
  simp (maxSteps := 4000000) only [↓wpA_H, ↓wpH_skip, ↓wpH_ret, ↓wpH_seq, ↓wpH_cond, ↓wpH_region, iselH_if, bselH_false, runH_nil, runH_cons, gw, gselH_plain, cselH_bool, ↓chk, justK, ↓oneK, ↓pureK, envOf, ↓thenA_normal, ↓stepEv, opnd, Pg.look, binK, intOp, Bool.false_eq_true, implies_true, true_and, and_true, valV, heapV, footV, binV, intV, alives, closeQ_nil, diagQ_zero, ofV, ofLeaf, retA, resK, tupA, subA, subQ, ptrsE, frzO, subF, subG, pickOf, frzE, frzC, frz0, frzH, Pg.freeze, List.foldl_nil, subOs, subEv, subV_succ, subM, reduceCtorEq, Nat.reduceEqDiff, List.append_nil, List.length_nil, Nat.zero_add, ite_true, ite_false, decide_eq_true_eq, decide_eq_false_iff_not, Int.not_lt, ne_eq, and_self, pickOK_nil, List.contains_nil, regH_none, isNext, nextF, nextG, selC_false]
  have a1 := Int.emod_nonneg k (b := n) (by omega)
  have a2 := Int.emod_lt_of_pos k (b := n) h0
  have a3 : k.tmod n = k % n ∨ k.tmod n = k % n - n := by
    rw [Int.tmod_eq_emod]
    split
    · left; omega
    · right; omega
  refine ⟨by omega, fun h => ?_, fun h => ?_⟩
  · rw [wrap64 (by omega) (by omega)]; omega
  · omega

def kHPlaceM : C1 := C1.by [.id, .id] (lCons (cInt .i64) (lOne (cInt .i64))) (fun d => 0 < d.2 ∧ d.2 ≤ 9223372036854775807 ∧ -9223372036854775808 ≤ d.1 ∧ d.1 ≤ 9223372036854775807) (fun d => .int .i64 (d.1 % d.2)) (fun _ => [])
theorem ok_HPlaceM : C1OK Try.prog 26 kHPlaceM := C1OK.by (by kernel_rfl) (fun d h => calls_HPlaceM d.1 d.2 h.1 h.2.1 h.2.2) (fun _ => rfl) (fun _ => rfl)

theorem cLaw13b : CtrOK Try.prog [(26, kHPlaceM), (15, kKnown13), (18, kNew), (19, kSet), (23, kGet), (21, kAdjust)] :=
  CtrOK.cons ok_HPlaceM cLaw13

set_option maxRecDepth 20000 in
set_option maxHeartbeats 4000000 in
theorem calls_MarksStay (lines : List UInt8) (a o w : UInt8) : CallsR Try.prog 5 [.sl 1 (ofBytes lines), .int .u8 a.toNat, .int .u8 o.toNat, .int .u8 w.toNat] [] (.bool true) [] := by
  refine callsR_of (mrg := false) (dyn := []) (cLaw13b) mixed Try.func5 rfl (by simp [Try.ntmps5]) (by kernel_rfl) ?_
  rw [show Try.f5.results.toList = [.tmp 8] from by kernel_rfl]
  have b1 := a.toNat_lt
  have b2 := o.toNat_lt
  have b3 := w.toNat_lt
  have w1 : IntKind.i64.wrap (a.toNat : Int) = (a.toNat : Int) := wrap64 (by omega) (by omega)
  have w2 : IntKind.i64.wrap (o.toNat : Int) = (o.toNat : Int) := wrap64 (by omega) (by omega)
  have w3 : IntKind.i64.wrap (w.toNat : Int) = (w.toNat : Int) := wrap64 (by omega) (by omega)
  by_cases hl : lines.length ≤ 20
  · have hc0 : decide ((lines.length : Int) > 20) = false := decide_eq_false (by omega)
    simp (maxSteps := 4000000) only [↓wpA_H, ↓wpH_skip, ↓wpH_seq, ↓wpH_cond, ↓wpH_block, ↓wpH_loop, ↓wpH_region, ↓iselH_false, bselH_false, runH_nil, runH_cons, gw, gselH_plain, cselH_bool, ↓chk, justK, ↓oneK, ↓pureK, envOf, ↓thenA_normal, ↓stepEv, opnd, Pg.look, binK, intOp, Bool.not_false, Bool.not_true, Bool.false_eq_true, false_implies, implies_true, imp_self, true_and, and_true, valV, heapV, footV, binV, intV, Nat.reduceAdd, ofV, ofLeaf, Pg.freeze, List.foldl_nil, slen, ↓callT, callC, callV, callH, normArgs, resL, shiftR, shift1, Option.getD_some, reduceCtorEq, Nat.reduceEqDiff, Nat.reduceAdd, List.nil_append, List.append_nil, List.length_cons, List.length_nil, List.map_cons, List.map_nil, Nat.zero_add, ite_true, ite_false, Option.some.injEq, AV.int.injEq, Prod.mk.injEq, List.all_nil, Bool.and_self, and_self, exists_eq_left', length_ofBytes, lNil_dec, List.contains_nil, List.range'_zero, C1by_ns, C1by_pre, C1by_r, C1by_H, optP_some, optV_some, optH_some, List.getD_cons_zero, List.getD_cons_succ, C1by_it, regH_none, isNext, nextF, nextG, selC_false, ↓msel, muC, ↓callP, ↓callU, ↓callUV, ↓callUH, ↓callUF, C1by_mu, C1mby_mu, runM_eq, mkM_some, hNil_dec, encE_nil, pickF, nodupB, somes, fresh, gids, gid, putO, ren, renL, renO, List.range'_succ, tk32, kKnown13, kNew, kSet, kGet, kAdjust, hMarks, mkH, hc0]
    refine loopH_intro (α := Nat) (fun k => ([(0, .sl 1 (ofBytes lines)), (1, .int .u8 a.toNat), (2, .int .u8 o.toNat), (3, .int .u8 w.toNat), (9, .ptr 0 1 1 0 0), (10, .int .i64 k)], mkH (aft lines k))) (fun k => k ≤ lines.length) (fun k => lines.length - k) 0 (Nat.zero_le _) ?_ ?_
    · simp (maxSteps := 4000000) only [Pg.look, Bool.and_true, Bool.false_eq_true, true_and, and_true, alives, aliveO, nxtQ, hdS, pairsA, frzA, closeQ_nil, closeQ_succ, diagQ_zero, subA, subQ, ptrsE, pairsO, frzO, subF, subG, pickOf, assocN, pairsE, pairsC, pairsL, pairs0, frzE, frzC, frzL, frz0, frzH, Pg.freeze, List.foldl_nil, subOs, subO, subEv, subV_succ, subM, AV.cells, AV.pureLeaf, AV.pureB, List.getElem?_cons_succ, List.getElem?_cons_zero, reduceCtorEq, Nat.reduceEqDiff, List.nil_append, List.append_nil, List.cons_append, Nat.zero_add, ite_true, ite_false, List.all_cons, List.all_nil, and_self, Int.cast_ofNat_Int, Nat.lt_irrefl, Nat.not_lt_zero, mkH]
      refine ⟨by decide, subX_one ?_, rfl⟩
      simp (maxSteps := 4000000) only [subV_succ, subM, subL, AV.cells, List.getElem?_cons_succ, List.getElem?_cons_zero, and_self]
    intro k hk
    by_cases hlt : k < lines.length
    · have hc : decide ((k : Int) < (lines.length : Int)) = true := decide_eq_true (by omega)
      have k1 : IntKind.i64.wrap (97 + (k : Int)) = ((97 + k : Nat) : Int) := by rw [wrap64 (by omega) (by omega)]; omega
      have k2 : IntKind.u8.wrap ((97 + k : Nat) : Int) = ((UInt8.ofNat (97 + k)).toNat : Int) := by
        rw [wrapU8 (by omega) (by omega), UInt8.toNat_ofNat']
        omega
      have k3 : IntKind.i64.wrap ((lines.getD k 0).toNat : Int) = ((lines.getD k 0).toNat : Int) := by
        have := (lines.getD k 0).toNat_lt
        exact wrap64 (by omega) (by omega)
      have k4 : nameOk (UInt8.ofNat (97 + k)) = true := by
        unfold nameOk
        rw [UInt8.toNat_ofNat', decide_eq_true (by omega), decide_eq_true (by omega)]
        simp
      simp (maxSteps := 4000000) only [↓wpA_H, ↓wpH_skip, ↓wpH_seq, ↓wpH_cond, ↓wpH_block, ↓wpH_region, ↓iselH_true, bselH_false, runH_nil, runH_cons, gw, gselH_plain, cselH_bool, ↓chk, justK, noW, ↓oneK, ↓pureK, ↓heapK, ↓thenA_normal, ↓blockA_normal, ↓stepEv, opnd, Pg.look, binK, intOp, Bool.and_true, Bool.not_false, Bool.false_eq_true, implies_true, true_and, and_true, valV, heapV, footV, binV, intV, alives, aliveO, nxtQ, hdS, pairsA, frzA, closeQ_nil, closeQ_succ, diagQ_zero, Nat.reduceAdd, ofV, ofLeaf, subA, subQ, ptrsE, pairsO, frzO, subF, subG, pickOf, assocN, pairsE, pairsC, pairsL, pairs0, frzE, frzC, frzL, frz0, frzH, Pg.freeze, List.foldl_nil, subOs, subO, subEv, subV_succ, subM, slen, ldCells, ↓callT, normA, resL, res8_eq, res_succ, resM, AV.cells, TK.cells, AV.definite, AV.pureLeaf, AV.pureB, lay, buildL, List.getElem?_cons_succ, List.getElem?_cons_zero, Option.getD_some, reduceCtorEq, Nat.reduceEqDiff, Nat.reduceAdd, Nat.reduceSub, List.nil_append, List.append_nil, List.cons_append, List.length_cons, List.length_nil, List.map_cons, List.map_nil, List.set_cons_zero, List.set_cons_succ, Nat.zero_add, ite_true, ite_false, Option.some.injEq, Option.isSome_some, AV.int.injEq, AV.agg.injEq, ne_eq, not_false_eq_true, List.all_cons, List.all_nil, Bool.and_self, and_self, exists_eq_left', length_ofBytes, getD_ofBytes, cByte_dec, List.contains_cons, List.contains_nil, Nat.reduceBEq, Bool.or_self, List.range'_zero, Int.toNat_natCast, List.getD_cons_zero, List.getD_cons_succ, List.drop_zero, List.drop_succ_cons, List.take_zero, Nat.sub_self, Nat.reduceLeDiff, Nat.lt_irrefl, Nat.not_lt_zero, regH_none, isNext, nextF, nextG, selC_false, ↓msel, muC, ↓callU, ↓callUV, ↓callUH, ↓callUF, C1by_mu, C1mby_mu, runM_eq, mkM_some, hNil_dec, hCons_dec, app3_some, hP_dec, hP1_some, hP2_some, hO1_some, hM1_mp, hMp_dec, hB1_some, hB2_arr, hBox_dec, hAgg_dec, encE_nil, pickF, nodupB, somes, fresh, gids, gid, putO, ren, renL, renO, tk3, tk5, dz5, tk32, tk37, tz37, kKnown13, kNew, kSet, kGet, kAdjust, hMarks, cPos_dec, decE_pos, mkH, hc, k1, k2, k3, k4]
      refine ⟨⟨by omega, hlt⟩, k + 1, by omega, by omega, by decide, ⟨subX_one ?_, by rw [aft_succ lines k (by omega)]⟩, by rw [wrap64 (by omega) (by omega)]; rfl⟩
      simp (maxSteps := 4000000) only [subV_succ, subM, subL, AV.cells, List.getElem?_cons_succ, List.getElem?_cons_zero, and_self]
    · have hc : decide ((k : Int) < (lines.length : Int)) = false := decide_eq_false (by omega)
      obtain rfl : k = lines.length := by omega
      simp (maxSteps := 4000000) only [↓wpA_H, ↓wpH_exit, ↓wpH_seq, ↓wpH_cond, ↓wpH_block, ↓wpH_loop, ↓wpH_region, ↓iselH_false, bselH_false, runH_nil, runH_cons, gw, gselH_plain, cselH_bool, ↓chk, justK, ↓oneK, ↓pureK, ↓thenA_normal, ↓thenA_exit, ↓blockA_exit, ↓stepEv, opnd, Pg.look, binK, intOp, Bool.not_false, Bool.false_eq_true, implies_true, true_and, and_true, valV, heapV, footV, binV, intV, Nat.reduceAdd, ofV, ofLeaf, retA, Pg.freeze, List.foldl_nil, slen, ↓callT, normA, res8_eq, res_succ, resM, List.getElem?_cons_succ, List.getElem?_cons_zero, Option.getD_some, reduceCtorEq, Nat.reduceEqDiff, Nat.reduceAdd, Nat.reduceSub, List.append_nil, List.length_cons, List.length_nil, List.map_cons, List.map_nil, List.set_cons_zero, List.set_cons_succ, Nat.zero_add, ite_true, ite_false, Option.some.injEq, AV.int.injEq, ne_eq, not_false_eq_true, List.all_cons, List.all_nil, Bool.and_self, and_self, exists_eq_left', cInt_dec, length_ofBytes, List.contains_cons, List.contains_nil, Nat.reduceBEq, Bool.or_self, List.range'_zero, List.getD_cons_zero, List.getD_cons_succ, Nat.sub_self, regH_none, isNext, nextF, nextG, selC_false, ↓msel, muC, ↓callU, ↓callUV, ↓callUH, ↓callUF, C1by_mu, C1mby_mu, runM_eq, mkM_some, hNil_dec, hCons_dec, app3_some, hP_dec, hP1_some, hP2_some, hO1_some, hM1_mp, hMp_dec, hB1_some, hB2_arr, hBox_dec, hAgg_dec, encE_nil, pickF, nodupB, somes, fresh, gids, gid, putO, ren, renL, renO, tk3, tk5, tk32, kKnown13, kNew, kSet, kGet, kAdjust, hMarks, decE_pos, mkH, hc, w1, w2, w3]
      refine ⟨aft_nodup _ _ (by omega), adjM_nodup _ _ _ _ (aft_nodup _ _ (by omega)), ?_⟩
      obtain ⟨M, hM⟩ : ∃ M, M = adjM (a.toNat : Int) (w.toNat : Int) (o.toNat : Int) (adjM (a.toNat : Int) (o.toNat : Int) (w.toNat : Int) (aft lines lines.length)) := ⟨_, rfl⟩
      have hlk : ∀ i, i < lines.length → look1 (UInt8.ofNat (97 + i)) M = if ((lines.getD i 0).toNat : Int) ≥ a.toNat ∧ ((lines.getD i 0).toNat : Int) < a.toNat + o.toNat ∧ ((lines.getD i 0).toNat : Int) - a.toNat ≥ w.toNat then none else some (((lines.getD i 0).toNat : Int), 0) := by
        intro i hi
        have hx := (lines.getD i 0).toNat_lt
        rw [hM, look1_adj _ _ _ _ _ (adjM_nodup _ _ _ _ (aft_nodup _ _ (by omega))), look1_adj _ _ _ _ _ (aft_nodup _ _ (by omega)), aft_look lines lines.length i (by omega) hi]
        exact shiftS2 _ _ _ _ (by omega) (by omega) (by omega) (by omega) (by omega) (by omega) (by omega) (by omega)
      rw [← hM]
      refine loopH_intro (α := Nat) (fun k => ([(0, .sl 1 (ofBytes lines)), (1, .int .u8 a.toNat), (2, .int .u8 o.toNat), (3, .int .u8 w.toNat), (9, .ptr 0 1 1 0 0), (11, .int .i64 k)], mkH M)) (fun k => k ≤ lines.length) (fun k => lines.length - k) 0 (Nat.zero_le _) ?_ ?_
      · simp (maxSteps := 4000000) only [Pg.look, Bool.and_true, Bool.false_eq_true, true_and, and_true, alives, aliveO, nxtQ, hdS, pairsA, frzA, closeQ_nil, closeQ_succ, diagQ_zero, subA, subQ, ptrsE, pairsO, frzO, subF, subG, pickOf, assocN, pairsE, pairsC, pairsL, pairs0, frzE, frzC, frzL, frz0, frzH, Pg.freeze, List.foldl_nil, subOs, subO, subEv, subV_succ, subM, AV.cells, AV.pureLeaf, AV.pureB, List.getElem?_cons_succ, List.getElem?_cons_zero, reduceCtorEq, Nat.reduceEqDiff, List.nil_append, List.append_nil, List.cons_append, Nat.zero_add, ite_true, ite_false, List.all_cons, List.all_nil, and_self, Int.cast_ofNat_Int, Nat.lt_irrefl, Nat.not_lt_zero, mkH]
        refine ⟨by decide, subX_one ?_⟩
        simp (maxSteps := 4000000) only [subV_succ, subM, subL, AV.cells, List.getElem?_cons_succ, List.getElem?_cons_zero, and_self]
      intro k hk
      by_cases hlt : k < lines.length
      · have hc : decide ((k : Int) < (lines.length : Int)) = true := decide_eq_true (by omega)
        have hx := (lines.getD k 0).toNat_lt
        have k1 : IntKind.i64.wrap (97 + (k : Int)) = ((97 + k : Nat) : Int) := by rw [wrap64 (by omega) (by omega)]; omega
        have k2 : IntKind.u8.wrap ((97 + k : Nat) : Int) = ((UInt8.ofNat (97 + k)).toNat : Int) := by
          rw [wrapU8 (by omega) (by omega), UInt8.toNat_ofNat']
          omega
        have k3 : IntKind.i64.wrap ((lines.getD k 0).toNat : Int) = ((lines.getD k 0).toNat : Int) := wrap64 (by omega) (by omega)
        have k4 : IntKind.i64.wrap ((a.toNat : Int) + (o.toNat : Int)) = (a.toNat : Int) + o.toNat := wrap64 (by omega) (by omega)
        have k5 : IntKind.i64.wrap (((lines.getD k 0).toNat : Int) - (a.toNat : Int)) = ((lines.getD k 0).toNat : Int) - a.toNat := wrap64 (by omega) (by omega)
        have hl1 := hlk k hlt
        by_cases g1 : ((lines.getD k 0).toNat : Int) ≥ a.toNat
        · have d1 : decide (((lines.getD k 0).toNat : Int) ≥ a.toNat) = true := decide_eq_true g1
          by_cases g2 : ((lines.getD k 0).toNat : Int) < a.toNat + o.toNat
          · have d2 : decide (((lines.getD k 0).toNat : Int) < a.toNat + o.toNat) = true := decide_eq_true g2
            by_cases g3 : ((lines.getD k 0).toNat : Int) - a.toNat ≥ w.toNat
            · have d3 : decide (((lines.getD k 0).toNat : Int) - a.toNat ≥ w.toNat) = true := decide_eq_true g3
              rw [if_pos ⟨g1, g2, g3⟩] at hl1
              simp (maxSteps := 4000000) only [↓wpA_H, ↓wpH_skip, ↓wpH_ret, ↓wpH_seq, ↓wpH_cond, ↓wpH_block, ↓wpH_region, ↓iselH_true, ↓iselH_false, iselH_if, bselH_false, runH_nil, runH_cons, ↓fixG, setG, gw, gselH_plain, gselH_if, kselH_0, kselH_2, cselH_bool, gkind, ↓chk, pickO, justK, noW, ↓oneK, ↓pureK, ↓heapK, ↓thenA_normal, ↓thenA_ret, ↓blockA_normal, ↓blockA_ret, ↓stepEv, opnd, Pg.look, binK, intOp, dstOf, Bool.and_true, Bool.not_false, Bool.not_true, Bool.false_eq_true, Bool.true_eq_false, implies_true, imp_self, true_and, and_true, pickC, pickV, unc, gof, mux, valV, heapV, footV, binV, intV, alives, aliveO, nxtQ, hdS, pairsA, frzA, closeQ_nil, closeQ_succ, diagQ_zero, Nat.reduceAdd, mergeable, ofV, ofLeaf, retA, resK, tupA, subA, subQ, ptrsE, pairsO, frzO, subF, subG, pickOf, assocN, pairsE, pairsC, pairsL, pairs0, frzE, frzC, frzL, frz0, frzH, Pg.freeze, List.foldl_nil, subOs, subO, subEv, subV_succ, subM, slen, ldCells, ↓callT, normA, res8_eq, res_succ, resM, AV.cells, TK.cells, AV.definite, AV.leaf, AV.leafy, AV.pureLeaf, AV.pureB, putCells, lay, List.getElem?_toArray, List.getElem?_cons_succ, List.getElem?_cons_zero, Option.bind_some, Option.getD_some, Option.getD_none, reduceCtorEq, Nat.reduceEqDiff, Nat.reduceAdd, Nat.reduceSub, List.nil_append, List.append_nil, List.cons_append, List.length_cons, List.length_nil, List.map_cons, List.map_nil, List.set_cons_zero, List.set_cons_succ, Nat.zero_add, ite_true, ite_false, Option.some.injEq, Option.isSome_none, AV.int.injEq, ne_eq, not_false_eq_true, List.all_cons, List.all_nil, Bool.and_self, and_self, Bool.not_eq_true', exists_eq_left', pickOK_nil, length_ofBytes, getD_ofBytes, cByte_dec, List.contains_cons, List.contains_nil, Nat.reduceBEq, Bool.or_self, List.range'_zero, Int.toNat_natCast, List.getD_cons_zero, List.getD_cons_succ, List.drop_succ_cons, List.take_zero, Nat.sub_self, Nat.le_refl, Nat.lt_irrefl, List.drop_nil, Nat.not_lt_zero, Nat.zero_lt_succ, regH_none, isNext, nextF, nextG, selC_false, ↓msel, muC, ↓callU, ↓callUV, ↓callUH, ↓callUF, C1by_mu, C1mby_mu, runM_eq, mkM_some, hNil_dec, hCons_dec, app3_some, hP_dec, hP1_some, hP2_some, hO1_some, hM1_mp, hMp_dec, hB1_some, hB2_arr, hBox_dec, hAgg_dec, encE_nil, pickF, nodupB, somes, fresh, gids, gid, putO, ren, renL, renO, tk3, tk4, tk5, dz5, tk32, tk37, tz37, dz37, kKnown13, kNew, kSet, kGet, kAdjust, hMarks, decE_pos, mkH, hc, k1, k2, k3, k4, k5, w1, w2, w3, hl1, d1, d2, d3]
              refine ⟨⟨by omega, hlt⟩, fun _ => ⟨k + 1, by omega, by omega, by decide, subX_one ?_, by rw [wrap64 (by omega) (by omega)]; rfl⟩, fun h => by simp at h⟩
              simp (maxSteps := 4000000) only [subV_succ, subM, subL, AV.cells, List.getElem?_cons_succ, List.getElem?_cons_zero, and_self]
            · have d3 : decide (((lines.getD k 0).toNat : Int) - a.toNat ≥ w.toNat) = false := decide_eq_false g3
              rw [if_neg (fun h => g3 h.2.2)] at hl1
              simp (maxSteps := 4000000) only [↓wpA_H, ↓wpH_skip, ↓wpH_ret, ↓wpH_seq, ↓wpH_cond, ↓wpH_block, ↓wpH_region, ↓iselH_true, ↓iselH_false, iselH_if, bselH_false, runH_nil, runH_cons, ↓fixG, setG, gw, gselH_plain, gselH_if, kselH_0, kselH_2, cselH_bool, gkind, ↓chk, pickO, justK, noW, ↓oneK, ↓pureK, ↓heapK, ↓thenA_normal, ↓thenA_ret, ↓blockA_normal, ↓blockA_ret, ↓stepEv, opnd, Pg.look, binK, intOp, dstOf, Bool.and_true, Bool.not_false, Bool.not_true, Bool.false_eq_true, Bool.true_eq_false, implies_true, imp_self, true_and, and_true, pickC, pickV, unc, gof, mux, valV, heapV, footV, binV, intV, alives, aliveO, nxtQ, hdS, pairsA, frzA, closeQ_nil, closeQ_succ, diagQ_zero, Nat.reduceAdd, mergeable, ofV, ofLeaf, retA, resK, tupA, subA, subQ, ptrsE, pairsO, frzO, subF, subG, pickOf, assocN, pairsE, pairsC, pairsL, pairs0, frzE, frzC, frzL, frz0, frzH, Pg.freeze, List.foldl_nil, subOs, subO, subEv, subV_succ, subM, slen, ldCells, objAt, ↓callT, normA, res8_eq, res_succ, resM, AV.cells, TK.cells, AV.definite, AV.leaf, AV.leafy, AV.pureLeaf, AV.pureB, putCells, lay, List.getElem?_toArray, List.getElem?_cons_succ, List.getElem?_cons_zero, Option.bind_some, Option.getD_some, reduceCtorEq, Nat.reduceEqDiff, Nat.reduceAdd, Nat.reduceSub, List.nil_append, List.append_nil, List.cons_append, List.length_cons, List.length_nil, List.map_cons, List.map_nil, List.set_cons_zero, List.set_cons_succ, Nat.zero_add, ite_true, ite_false, Option.some.injEq, Option.isSome_some, AV.int.injEq, ne_eq, not_false_eq_true, List.all_cons, List.all_nil, Bool.and_self, and_self, Bool.not_eq_true', exists_eq_left', pickOK_nil, length_ofBytes, getD_ofBytes, cByte_dec, List.contains_cons, List.contains_nil, Nat.reduceBEq, Bool.or_self, List.range'_zero, bne_self_eq_false, Int.toNat_natCast, List.getD_cons_zero, List.getD_cons_succ, List.drop_succ_cons, List.take_zero, Nat.add_zero, Nat.sub_self, Nat.le_refl, Nat.lt_irrefl, List.drop_nil, Nat.not_lt_zero, Nat.zero_lt_succ, regH_none, isNext, nextF, nextG, selC_false, ↓msel, muC, ↓callU, ↓callUV, ↓callUH, ↓callUF, C1by_mu, C1mby_mu, runM_eq, mkM_some, hNil_dec, hCons_dec, app3_some, hP_dec, hP1_some, hP2_some, hO1_some, hM1_mp, hMp_dec, hB1_some, hB2_arr, hBox_dec, hAgg_dec, encE_nil, pickF, nodupB, somes, fresh, gids, gid, putO, ren, renL, renO, tk3, tk4, tk5, dz5, tk32, tk37, tz37, dz37, kKnown13, kNew, kSet, kGet, kAdjust, hMarks, decE_pos, mkH, hc, k1, k2, k3, k4, k5, w1, w2, w3, hl1, d1, d2, d3]
              refine ⟨⟨by omega, hlt⟩, fun _ => ⟨k + 1, by omega, by omega, by decide, subX_one ?_, by rw [wrap64 (by omega) (by omega)]; rfl⟩, fun h => by simp at h⟩
              simp (maxSteps := 4000000) only [subV_succ, subM, subL, AV.cells, List.getElem?_cons_succ, List.getElem?_cons_zero, and_self]
          · have d2 : decide (((lines.getD k 0).toNat : Int) < a.toNat + o.toNat) = false := decide_eq_false g2
            rw [if_neg (fun h => g2 h.2.1)] at hl1
            simp (maxSteps := 4000000) only [↓wpA_H, ↓wpH_skip, ↓wpH_ret, ↓wpH_seq, ↓wpH_cond, ↓wpH_block, ↓wpH_region, ↓iselH_true, ↓iselH_false, iselH_if, bselH_false, runH_nil, runH_cons, ↓fixG, setG, gw, gselH_plain, gselH_if, kselH_0, kselH_2, cselH_bool, gkind, ↓chk, pickO, justK, noW, ↓oneK, ↓pureK, ↓heapK, ↓thenA_normal, ↓thenA_ret, ↓blockA_normal, ↓blockA_ret, ↓stepEv, opnd, Pg.look, binK, intOp, dstOf, Bool.and_true, Bool.not_false, Bool.not_true, Bool.false_eq_true, Bool.true_eq_false, implies_true, imp_self, true_and, and_true, pickC, pickV, unc, gof, mux, valV, heapV, footV, binV, intV, alives, aliveO, nxtQ, hdS, pairsA, frzA, closeQ_nil, closeQ_succ, diagQ_zero, Nat.reduceAdd, mergeable, ofV, ofLeaf, retA, resK, tupA, subA, subQ, ptrsE, pairsO, frzO, subF, subG, pickOf, assocN, pairsE, pairsC, pairsL, pairs0, frzE, frzC, frzL, frz0, frzH, Pg.freeze, List.foldl_nil, subOs, subO, subEv, subV_succ, subM, slen, ldCells, objAt, ↓callT, normA, res8_eq, res_succ, resM, AV.cells, TK.cells, AV.definite, AV.leaf, AV.leafy, AV.pureLeaf, AV.pureB, putCells, lay, List.getElem?_toArray, List.getElem?_cons_succ, List.getElem?_cons_zero, Option.bind_some, Option.getD_some, reduceCtorEq, Nat.reduceEqDiff, Nat.reduceAdd, Nat.reduceSub, List.nil_append, List.append_nil, List.cons_append, List.length_cons, List.length_nil, List.map_cons, List.map_nil, List.set_cons_zero, List.set_cons_succ, Nat.zero_add, ite_true, ite_false, Option.some.injEq, Option.isSome_some, AV.int.injEq, ne_eq, not_false_eq_true, List.all_cons, List.all_nil, Bool.and_self, and_self, Bool.not_eq_true', exists_eq_left', pickOK_nil, length_ofBytes, getD_ofBytes, cByte_dec, List.contains_cons, List.contains_nil, Nat.reduceBEq, Bool.or_self, List.range'_zero, bne_self_eq_false, Int.toNat_natCast, List.getD_cons_zero, List.getD_cons_succ, List.drop_succ_cons, List.take_zero, Nat.add_zero, Nat.sub_self, Nat.le_refl, Nat.lt_irrefl, List.drop_nil, Nat.not_lt_zero, Nat.zero_lt_succ, regH_none, isNext, nextF, nextG, selC_false, ↓msel, muC, ↓callU, ↓callUV, ↓callUH, ↓callUF, C1by_mu, C1mby_mu, runM_eq, mkM_some, hNil_dec, hCons_dec, app3_some, hP_dec, hP1_some, hP2_some, hO1_some, hM1_mp, hMp_dec, hB1_some, hB2_arr, hBox_dec, hAgg_dec, encE_nil, pickF, nodupB, somes, fresh, gids, gid, putO, ren, renL, renO, tk3, tk4, tk5, dz5, tk32, tk37, tz37, dz37, kKnown13, kNew, kSet, kGet, kAdjust, hMarks, decE_pos, mkH, hc, k1, k2, k3, k4, w1, w2, hl1, d1, d2]
            refine ⟨⟨by omega, hlt⟩, fun _ => ⟨k + 1, by omega, by omega, by decide, subX_one ?_, by rw [wrap64 (by omega) (by omega)]; rfl⟩, fun h => by simp at h⟩
            simp (maxSteps := 4000000) only [subV_succ, subM, subL, AV.cells, List.getElem?_cons_succ, List.getElem?_cons_zero, and_self]
        · have d1 : decide (((lines.getD k 0).toNat : Int) ≥ a.toNat) = false := decide_eq_false g1
          rw [if_neg (fun h => g1 h.1)] at hl1
          simp (maxSteps := 4000000) only [↓wpA_H, ↓wpH_skip, ↓wpH_ret, ↓wpH_seq, ↓wpH_cond, ↓wpH_block, ↓wpH_region, ↓iselH_true, ↓iselH_false, iselH_if, bselH_false, runH_nil, runH_cons, ↓fixG, setG, gw, gselH_plain, gselH_if, kselH_0, kselH_2, cselH_bool, gkind, ↓chk, pickO, justK, noW, ↓oneK, ↓pureK, ↓heapK, ↓thenA_normal, ↓thenA_ret, ↓blockA_normal, ↓blockA_ret, ↓stepEv, opnd, Pg.look, binK, intOp, dstOf, Bool.and_true, Bool.not_false, Bool.not_true, Bool.false_eq_true, Bool.true_eq_false, implies_true, imp_self, true_and, and_true, pickC, pickV, unc, gof, mux, valV, heapV, footV, binV, intV, alives, aliveO, nxtQ, hdS, pairsA, frzA, closeQ_nil, closeQ_succ, diagQ_zero, Nat.reduceAdd, mergeable, ofV, ofLeaf, retA, resK, tupA, subA, subQ, ptrsE, pairsO, frzO, subF, subG, pickOf, assocN, pairsE, pairsC, pairsL, pairs0, frzE, frzC, frzL, frz0, frzH, Pg.freeze, List.foldl_nil, subOs, subO, subEv, subV_succ, subM, slen, ldCells, objAt, ↓callT, normA, res8_eq, res_succ, resM, AV.cells, TK.cells, AV.definite, AV.leaf, AV.leafy, AV.pureLeaf, AV.pureB, putCells, lay, List.getElem?_toArray, List.getElem?_cons_succ, List.getElem?_cons_zero, Option.bind_some, Option.getD_some, reduceCtorEq, Nat.reduceEqDiff, Nat.reduceAdd, Nat.reduceSub, List.nil_append, List.append_nil, List.cons_append, List.length_cons, List.length_nil, List.map_cons, List.map_nil, List.set_cons_zero, List.set_cons_succ, Nat.zero_add, ite_true, ite_false, Option.some.injEq, Option.isSome_some, AV.int.injEq, ne_eq, not_false_eq_true, List.all_cons, List.all_nil, Bool.and_self, and_self, Bool.not_eq_true', exists_eq_left', pickOK_nil, length_ofBytes, getD_ofBytes, cByte_dec, List.contains_cons, List.contains_nil, Nat.reduceBEq, Bool.or_self, List.range'_zero, bne_self_eq_false, Int.toNat_natCast, List.getD_cons_zero, List.getD_cons_succ, List.drop_succ_cons, List.take_zero, Nat.add_zero, Nat.sub_self, Nat.le_refl, Nat.lt_irrefl, List.drop_nil, Nat.not_lt_zero, Nat.zero_lt_succ, regH_none, isNext, nextF, nextG, selC_false, ↓msel, muC, ↓callU, ↓callUV, ↓callUH, ↓callUF, C1by_mu, C1mby_mu, runM_eq, mkM_some, hNil_dec, hCons_dec, app3_some, hP_dec, hP1_some, hP2_some, hO1_some, hM1_mp, hMp_dec, hB1_some, hB2_arr, hBox_dec, hAgg_dec, encE_nil, pickF, nodupB, somes, fresh, gids, gid, putO, ren, renL, renO, tk3, tk4, tk5, dz5, tk32, tk37, tz37, dz37, kKnown13, kNew, kSet, kGet, kAdjust, hMarks, decE_pos, mkH, hc, k1, k2, k3, w1, hl1, d1]
          refine ⟨⟨by omega, hlt⟩, fun _ => ⟨k + 1, by omega, by omega, by decide, subX_one ?_, by rw [wrap64 (by omega) (by omega)]; rfl⟩, fun h => by simp at h⟩
          simp (maxSteps := 4000000) only [subV_succ, subM, subL, AV.cells, List.getElem?_cons_succ, List.getElem?_cons_zero, and_self]
      · have hc : decide ((k : Int) < (lines.length : Int)) = false := decide_eq_false (by omega)
        have hpm := Int.emod_nonneg (a.toNat : Int) (b := 7) (by omega)
        have hpl : decide ((a.toNat : Int) % 7 ≥ 0) = true := decide_eq_true (by omega)
        simp (maxSteps := 4000000) only [↓wpA_H, ↓wpH_ret, ↓wpH_exit, ↓wpH_seq, ↓wpH_cond, ↓wpH_region, ↓iselH_false, bselH_false, runH_nil, runH_cons, gw, gselH_plain, cselH_bool, ↓chk, justK, ↓oneK, ↓pureK, ↓thenA_normal, ↓thenA_exit, ↓blockA_exit, ↓stepEv, opnd, Pg.look, binK, intOp, Bool.false_eq_true, false_implies, implies_true, true_and, and_true, valV, heapV, footV, binV, intV, alives, closeQ_nil, diagQ_zero, Nat.reduceAdd, ofV, ofLeaf, retA, resK, tupA, subA, subQ, ptrsE, frzO, subF, subG, pickOf, frzE, frzC, frz0, frzH, Pg.freeze, List.foldl_nil, subOs, subEv, subV_succ, subM, slen, ↓callT, callC, callV, callH, normArgs, normA, resL, res8_eq, res_succ, resM, shiftR, shift1, Option.getD_some, reduceCtorEq, Nat.reduceEqDiff, Nat.reduceAdd, List.nil_append, List.append_nil, List.cons_append, List.length_cons, List.length_nil, List.map_cons, List.map_nil, Nat.zero_add, ite_true, ite_false, Option.some.injEq, AV.int.injEq, Prod.mk.injEq, ne_eq, not_false_eq_true, and_self, exists_eq_left', pickOK_nil, cInt_dec, length_ofBytes, Int.reduceLE, Int.reduceLT, lOne_dec, lCons_dec, dec2_some, List.contains_nil, List.range'_zero, C1by_ns, C1by_pre, C1by_r, C1by_H, optP_some, optV_some, optH_some, C1by_it, regH_none, isNext, nextF, nextG, selC_false, ↓msel, muC, ↓callP, C1by_mu, tk3, tk5, tk32, kKnown13, kHPlaceM, hc, w1, hpl, mkH]
        exact ⟨by omega, by omega⟩
  · have hc0 : decide ((lines.length : Int) > 20) = true := decide_eq_true (by omega)
    simp (maxSteps := 4000000) only [↓wpA_H, ↓wpH_skip, ↓wpH_ret, ↓wpH_seq, ↓wpH_cond, ↓wpH_region, ↓iselH_true, ↓iselH_false, bselH_false, runH_nil, runH_cons, gw, gselH_plain, cselH_bool, ↓chk, justK, ↓oneK, ↓pureK, envOf, ↓thenA_normal, ↓thenA_ret, ↓stepEv, opnd, Pg.look, binK, intOp, Bool.not_true, Bool.false_eq_true, false_implies, implies_true, imp_self, true_and, and_true, valV, heapV, footV, binV, intV, alives, closeQ_nil, diagQ_zero, Nat.reduceAdd, ofV, ofLeaf, retA, resK, tupA, subA, subQ, ptrsE, frzO, subF, subG, pickOf, frzE, frzC, frz0, frzH, Pg.freeze, List.foldl_nil, subOs, subEv, subV_succ, subM, slen, ↓callT, callC, callV, callH, normArgs, resL, shiftR, shift1, Option.getD_some, reduceCtorEq, Nat.reduceEqDiff, Nat.reduceAdd, List.nil_append, List.append_nil, List.length_nil, List.map_nil, Nat.zero_add, ite_true, ite_false, Option.some.injEq, AV.int.injEq, Prod.mk.injEq, and_self, exists_eq_left', pickOK_nil, length_ofBytes, lNil_dec, List.contains_nil, List.range'_zero, C1by_ns, C1by_pre, C1by_r, C1by_H, optP_some, optV_some, optH_some, C1by_it, regH_none, isNext, nextF, nextG, selC_false, ↓msel, muC, ↓callP, C1by_mu, tk32, kKnown13, hc0]
end Go.Pg
