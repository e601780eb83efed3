/- slices.Grow of nil, slices.Concat, of nothing too. -/
import Derived.Test.YtohpkjpipihdoaaPgFr1
import Derived.Shelf.Spec.SlicesGrow
namespace Go.Pg
open Go Go.Proofs Go.Shelf

theorem VRs.twoR {E : Env} {a b : AV} {vals : Array Value} (h : VRs E [a, b] vals) : ∃ u v, vals = #[u, v] ∧ VR E a u ∧ VR E b v := by
  obtain ⟨hs, hv⟩ := h
  match vals, hs with
  | ⟨[u, v]⟩, _ => exact ⟨u, v, rfl, hv 0 a rfl, hv 1 b rfl⟩
theorem callsR_newR {P : Program} {f : FuncId} {args : List AV} {t : TypeId} {sz : Nat}
    (h : ∀ (E : Env) (vals : Array Value), VRs E args vals → Calls P f vals E.W fun e W' => (e = .returned (.slice none 0 0) ∧ W' = E.W) ∨ ∃ (C : Array Value) (cap : Nat), e = .returned (.slice (some ⟨E.W.heap.size, 0, none⟩) 0 cap) ∧ SameBut E.W W' ∧ W'.heap = E.W.heap.push (.cells C t (0, 0)) ∧ C.size = cap * sz ∧ cap ≤ maxLen) :
    CallsR P f args [] (.own 0 sz 0) [.arr t sz []] := by
  intro E vals hr hv
  have hle : AHle [] [.arr t sz []] := fun id o ho => by simp at ho
  obtain ⟨E1, hr1, hW1, hM1, hst1⟩ := hr.le hle
  have hm0 : E1.M 0 = none := by rw [hM1]; exact hr.dom 0 (Nat.zero_le _)
  refine (h E vals hv).mono fun e W' hh => ?_
  rcases hh with ⟨he, hw⟩ | ⟨C, cap, he, hs, hh, hC, hcap⟩
  · obtain ⟨E', hW, hr', hst, _, hMid, hhl⟩ := alloc_nil hr1 (id := 0) hm0 (e := t) (sz := sz) (o' := .arr t sz []) rfl (AOle.refl _)
    refine ⟨_, E', he, by rw [hW, hW1, hw], .own 0 sz 0 none 0 (by rw [hMid]; rfl) (fun _ => rfl) (fun L hL => ?_), hr', hst1.trans hst⟩
    exact ⟨Nat.zero_le _, fun _ => .inl ⟨hMid, rfl, rfl⟩⟩
  · obtain ⟨E', hW, hr', hst, _, hMid, hhl⟩ := alloc_rel hr1 (id := 0) hm0 (e := t) (sz := sz) (vs := []) rfl (AOle.refl _) (w' := W') (c := C) (fz := (0, 0)) (by rw [hW1]; exact hs) (by rw [hW1]; exact hh) (by simp) (fun k _ hk => by simp at hk) (fun i v hi => by simp at hi)
    refine ⟨_, E', he, hW, .own 0 sz 0 _ cap (by rw [hMid]; rfl) (fun h => by cases h) (fun L hL => ?_), hr', hst1.trans hst⟩
    rw [hr'.hl] at hL
    have : L = 0 := by simpa [hlOf, AO.len] using hL.symm
    subst this
    exact ⟨Nat.le_refl _, fun _ => .inr ⟨E.W.heap.size, C, t, (0, 0), by rw [hMid, hW1], rfl, Nat.zero_le _, hcap, by rw [hW, hh]; simp, hC⟩⟩

def growRenR : Go.Shelf.Ren := ⟨fun | 4 => 63 | n => n, fun | 0 => 0 | 3 => 3 | 4 => 4 | 9 => 9 | 20 => 20 | 22 => 50 | 25 => 9 | n => n, fun | n => n⟩
theorem growLaysR : Lays8.n4 Try.prog growRenR := {
  mixed := by kernel_rfl
  f4 := ⟨Try.f63.name, by decide, Try.func63.trans (congrArg some (by kernel_rfl))⟩
  t0 := Try.underlying0
  a0 := Try.isAgg0
  z0 := Try.sizeOf0
  v0 := Try.zeroValue0
  t3 := Try.underlying3
  a3 := Try.isAgg3
  z3 := Try.sizeOf3
  v3 := Try.zeroValue3
  t4 := Try.underlying4
  a4 := Try.isAgg4
  z4 := Try.sizeOf4
  v4 := Try.zeroValue4
  t9 := Try.underlying9
  a9 := Try.isAgg9
  z9 := Try.sizeOf9
  v9 := Try.zeroValue9
  t20 := Try.underlying20
  a20 := Try.isAgg20
  z20 := Try.sizeOf20
  v20 := Try.zeroValue20
  t22 := Try.underlying50
  a22 := Try.isAgg50
  z22 := Try.sizeOf50
  v22 := Try.zeroValue50 }

theorem calls_GrowR (n : Nat) (h2 : n ≤ 1099511627776) : CallsR Try.prog 63 [.nls, .int .i64 n] [] (.own 0 1 0) [.arr 9 1 []] := by
  refine callsR_newR fun E vals hv => ?_
  obtain ⟨u, v, rfl, k1, k2⟩ := hv.twoR
  rw [k1.nls_inv, k2.int_inv]
  by_cases h1 : 0 < n
  · have hi : ∃ i0 z, Try.prog.info? 9 = some i0 ∧ i0.zero = some z ∧ i0.size = 1 ∧ i0.bytes = 16 ∧ z.cells.size = 1 := by
      have h : (match Try.prog.info? 9 with
        | some i => match i.zero with
          | some z => i.size == 1 && i.bytes == 16 && z.cells.size == 1
          | none => false
        | none => false) = true := by kernel_rfl
      split at h
      · next i hi =>
        split at h
        · next z hz =>
          simp only [Bool.and_eq_true, beq_iff_eq] at h
          exact ⟨i, z, hi, hz, h.1.1, h.1.2, h.2⟩
        · cases h
      · cases h
    obtain ⟨i0, z, hi0, hz, hs1, hb1, hc1⟩ := hi
    refine (Any8.slices_Grow_grow growLaysR i0 z hi0 hz (by omega) none 0 0 n [] E.W (Nat.le_refl _) (by omega) (by rw [hb1]; omega) (by omega) (by simp) (fun _ => rfl) (fun a ha => by cases ha)).mono fun e W' ⟨he, hw⟩ => .inr ?_
    obtain ⟨hsb, hh⟩ := drew_same E.W (.cells (([] : List Value).toArray ++ Builtin.zeroCells z.cells (0 + n - 0) ++ Builtin.zeroCells z.cells (grownCap E.W (0 + n) 0 9 - (0 + n))) 9)
    have hge := grownCap_ge E.W (0 + n) 0 9
    refine ⟨_, grownCap E.W (0 + n) 0 9, he, by rw [hw]; exact hsb, by rw [hw]; exact hh, ?_, grownCap_le_maxLen E.W _ 0 _ (by unfold maxLen; omega)⟩
    rw [Array.size_append, Array.size_append, growZ hc1, growZ hc1]
    simp only [Nat.zero_add] at hge
    simp only [List.size_toArray, List.length_nil, Nat.zero_add, Nat.sub_zero, ← Nat.add_mul]
    rw [show n + (grownCap E.W n 0 9 - n) = grownCap E.W n 0 9 by omega]
  · obtain rfl : n = 0 := by omega
    exact (Any8.slices_Grow_room growLaysR none 0 0 0 E.W (Nat.le_refl _) (by omega) (by omega) (by omega)).mono fun e W' h => .inl h

def kGrowR : C1 := C1.by [.id, .id] (lCons cAny (lOne (cInt .i64))) (fun d => d.1 = .nls ∧ 0 ≤ d.2 ∧ d.2 ≤ 1099511627776) (fun _ => .own 0 1 0) (fun _ => [.arr 9 1 []])
theorem ok_GrowR : C1OK Try.prog 63 kGrowR := C1OK.by (by kernel_rfl) (fun d h => by
  obtain ⟨a, n⟩ := d
  obtain ⟨h1, h2, h3⟩ := h
  simp only at h1 h2 h3
  subst h1
  have := calls_GrowR n.toNat (by omega)
  rw [show ((n.toNat : Nat) : Int) = n by omega] at this
  exact this) (fun _ => rfl) (fun _ => rfl)

def aStrsR (l : LsR) : AV := .sl 1 (l.map .str)
theorem pureB_strssR (l : List LsR) : (l.map aStrsR).all AV.pureB = true := by simp [aStrsR, AV.pureB, AV.cells, AV.pureLeaf]
theorem getD_strssR (l : List LsR) (i : Nat) : (l.map aStrsR).getD i (.sl 1 []) = aStrsR (l.getD i []) := getD_map aStrsR l i []
theorem flat_takeR (l : List LsR) (i : Nat) (h : i < l.length) : (l.take (i + 1)).flatten = (l.take i).flatten ++ l.getD i [] := by
  rw [List.take_add_one, List.flatten_append, List.getElem?_eq_getElem h, List.getD_eq_getElem?_getD, List.getElem?_eq_getElem h]
  simp

set_option maxRecDepth 20000 in
set_option maxHeartbeats 4000000 in
theorem calls_ConcatR (l : List LsR) (h1 : l.flatten.length ≤ 1099511627776) (h2 : l.length ≤ 1048576) :
    CallsR Try.prog 50 [.sl 1 (l.map aStrsR)] [] (.sl 1 (l.flatten.map .str)) [] := by
  refine callsR_of (mrg := true) (dyn := []) (CtrOK.cons ok_GrowR (CtrOK.nil _)) mixed Try.func50 rfl (by simp [Try.ntmps50]) (by kernel_rfl) ?_
  rw [show Try.f50.results.toList = [.tmp 2] from by kernel_rfl]
  have hle : ∀ i, (l.take i).flatten.length ≤ l.flatten.length := fun i => by
    have := congrArg (fun x : List LsR => x.flatten.length) (List.take_append_drop i l)
    simp only [List.flatten_append, List.length_append] at this
    omega
  simp (maxSteps := 4000000) only [↓wpA_H, ↓wpH_seq, ↓wpH_block, ↓wpH_loop, ↓wpH_region, bselH_false, runH_nil, runH_cons, gw, gselH_plain, ↓chk, justK, ↓oneK, ↓pureK, envOf, ↓thenA_normal, ↓stepEv, opnd, Pg.look, Bool.false_eq_true, implies_true, true_and, and_true, valV, heapV, footV, ofV, ofLeaf, slen, Option.getD_some, reduceCtorEq, Nat.reduceEqDiff, List.length_nil, ite_true, ite_false, Option.some.injEq, AV.int.injEq, and_self, exists_eq_left', List.length_map, List.contains_nil, regH_none, isNext, nextF, nextG, selC_false, tk102, kGrowR]
  refine loopH_intro (α := Nat) (fun i => ([(0, .sl 1 (l.map aStrsR)), (2, .nls), (3, .int .i64 (l.take i).flatten.length), (9, .sl 1 (l.map aStrsR)), (10, .int .i64 l.length), (11, .int .i64 i)], [])) (fun i => i ≤ l.length) (fun i => l.length - i) 0 (by omega) ?_ ?_
  · simp (maxSteps := 4000000) only [Pg.look, true_and, and_true, alives, closeQ_nil, diagQ_zero, subA, subQ, ptrsE, frzO, subF, subG, pickOf, frzE, frzC, frz0, frzH, Pg.freeze, List.foldl_nil, subOs, subEv, subV_succ, subM, reduceCtorEq, Nat.reduceEqDiff, List.append_nil, ite_true, ite_false, and_self, pickOK_nil, Int.cast_ofNat_Int, List.take_zero]
    all_goals simp
  intro i hi
  by_cases hlt : i < l.length
  · have hct : decide ((i : Int) < l.length) = true := decide_eq_true (by omega)
    have hfl := flat_takeR l i hlt
    have hfl2 : (l.take (i + 1)).flatten.length = (l.take i).flatten.length + (l.getD i []).length := by rw [hfl, List.length_append]
    have hl2 := hle (i + 1)
    have w1 : IntKind.i64.wrap (((l.take i).flatten.length : Int) + ((l.getD i []).length : Int)) = ((l.take (i + 1)).flatten.length : Int) := by rw [wrap64 (by omega) (by omega)]; omega
    have hneg : decide (((l.take (i + 1)).flatten.length : Int) < 0) = false := decide_eq_false (by omega)
    simp (maxSteps := 4000000) only [↓wpA_H, ↓wpH_skip, ↓wpH_seq, ↓wpH_cond, ↓wpH_block, ↓wpH_region, ↓iselH_true, ↓iselH_false, bselH_false, runH_nil, runH_cons, gw, gselH_plain, cselH_bool, ↓chk, justK, noW, ↓oneK, ↓pureK, ↓heapK, ↓thenA_normal, ↓blockA_normal, ↓stepEv, opnd, Pg.look, binK, intOp, Bool.false_eq_true, implies_true, true_and, and_true, valV, heapV, footV, binV, intV, alives, closeQ_nil, diagQ_zero, ofV, ofLeaf, subA, subQ, ptrsE, frzO, subF, subG, pickOf, frzE, frzC, frz0, frzH, Pg.freeze, List.foldl_nil, subOs, subEv, subV_succ, subM, slen, ldCells, AV.cells, TK.cells, List.getElem?_cons_zero, Option.getD_some, reduceCtorEq, Nat.reduceEqDiff, List.append_nil, ite_true, ite_false, Option.some.injEq, AV.int.injEq, and_self, exists_eq_left', pickOK_nil, List.length_map, List.contains_nil, Int.toNat_natCast, regH_none, isNext, nextF, nextG, selC_false, tk50, dz50, tk102, kGrowR, hct, getD_strssR, aStrsR, w1, hneg]
    exact ⟨⟨by omega, hlt⟩, i + 1, by omega, by omega, rfl, by rw [wrap64 (by omega) (by omega)]; rfl⟩
  · have hcf : decide ((i : Int) < l.length) = false := decide_eq_false (by omega)
    have hil : i = l.length := by omega
    subst hil
    rw [List.take_length]
    simp (maxSteps := 4000000) only [↓wpA_H, ↓wpH_exit, ↓wpH_seq, ↓wpH_cond, ↓wpH_block, ↓wpH_loop, ↓wpH_region, ↓iselH_false, bselH_false, runH_nil, runH_cons, gw, gselH_plain, cselH_bool, ↓chk, justK, ↓oneK, ↓pureK, ↓thenA_normal, ↓thenA_exit, ↓blockA_exit, ↓stepEv, opnd, Pg.look, binK, intOp, Bool.false_eq_true, implies_true, true_and, and_true, valV, heapV, footV, binV, intV, ofV, ofLeaf, retA, Pg.freeze, List.foldl_nil, slen, ↓callT, callC, callV, callH, normArgs, normA, resL, res8_eq, res_succ, resM, shiftR, shift1, Option.getD_some, reduceCtorEq, Nat.reduceEqDiff, List.nil_append, List.append_nil, List.length_cons, List.length_nil, List.map_cons, List.map_nil, Nat.zero_add, ite_true, ite_false, Option.some.injEq, AV.int.injEq, and_self, exists_eq_left', List.length_map, cInt_dec, cAny_dec, lOne_dec, lCons_dec, dec2_some, List.contains_nil, List.range'_zero, C1by_ns, C1by_pre, C1by_r, C1by_H, optP_some, optV_some, optH_some, Nat.add_zero, C1by_it, regH_none, isNext, nextF, nextG, selC_false, ↓msel, muC, ↓callP, C1by_mu, List.range'_succ, tk102, kGrowR, hcf]
    refine ⟨⟨by omega, by omega⟩, ?_⟩
    refine loopH_intro (α := Nat) (fun i => ([(2, .nls), (6, .own 0 1 (l.take i).flatten.length), (25, .sl 1 (l.map aStrsR)), (26, .int .i64 l.length), (27, .int .i64 i)], [.arr 9 1 ((l.take i).flatten.map .str)])) (fun i => i ≤ l.length) (fun i => l.length - i) 0 (by omega) ?_ ?_
    · simp (maxSteps := 4000000) only [Pg.look, true_and, and_true, alives, aliveO, closeQ_nil, diagQ_zero, subA, subQ, ptrsE, pairsO, frzO, subF, subG, pickOf, assocN, pairsE, pairsC, pairs0, frzE, frzC, frz0, frzH, Pg.freeze, List.foldl_nil, subOs, subO, subEv, subV_succ, subM, List.getElem?_cons_zero, reduceCtorEq, Nat.reduceEqDiff, List.nil_append, List.append_nil, ite_true, ite_false, and_self, pickOK_one, Int.cast_ofNat_Int, List.take_zero, Nat.lt_irrefl]
      exact ⟨subX_eq rfl rfl, rfl⟩
    intro i hi
    by_cases hlt : i < l.length
    · have hct : decide ((i : Int) < l.length) = true := decide_eq_true (by omega)
      have hfl := flat_takeR l i hlt
      have hfl2 : (l.take (i + 1)).flatten.length = (l.take i).flatten.length + (l.getD i []).length := by rw [hfl, List.length_append]
      have hl2 := hle (i + 1)
      simp (maxSteps := 4000000) only [↓wpA_H, ↓wpH_skip, ↓wpH_seq, ↓wpH_cond, ↓wpH_block, ↓wpH_region, ↓iselH_true, bselH_false, runH_nil, runH_cons, gw, gselH_plain, cselH_bool, ↓chk, justK, noW, ↓oneK, ↓pureK, ↓heapK, ↓thenA_normal, ↓blockA_normal, ↓stepEv, opnd, Pg.look, binK, intOp, Bool.false_eq_true, implies_true, true_and, and_true, valV, heapV, footV, binV, intV, alives, aliveO, closeQ_nil, diagQ_zero, ofV, ofLeaf, subA, subQ, ptrsE, pairsO, frzO, subF, subG, pickOf, assocN, pairsE, pairsC, pairs0, frzE, frzC, frz0, frzH, Pg.freeze, List.foldl_nil, subOs, subO, subEv, subV_succ, subM, srcV, srcE, appK, ldCells, AV.cells, TK.cells, List.getElem?_cons_zero, Option.getD_some, Nat.reduceEqDiff, List.nil_append, List.append_nil, List.set_cons_zero, ite_true, ite_false, Option.some.injEq, not_false_eq_true, and_self, exists_eq_left', pickOK_one, List.length_map, not_mem_nil, app_strs, leafy_strs, List.contains_nil, Int.toNat_natCast, Nat.lt_irrefl, regH_none, isNext, nextF, nextG, selC_false, eb9, tk50, dz50, tk102, kGrowR, hct, getD_strssR, aStrsR]
      exact ⟨⟨by omega, hlt⟩, by omega, i + 1, by omega, by omega, subX_eq (by rw [hfl]) (pureB_strs _), hfl2.symm, by rw [wrap64 (by omega) (by omega)]; rfl⟩
    · have hcf : decide ((i : Int) < l.length) = false := decide_eq_false (by omega)
      have hil : i = l.length := by omega
      subst hil
      rw [List.take_length]
      simp (maxSteps := 4000000) only [↓wpA_H, ↓wpH_ret, ↓wpH_exit, ↓wpH_seq, ↓wpH_cond, ↓wpH_region, ↓iselH_false, bselH_false, runH_nil, runH_cons, gw, gselH_plain, cselH_bool, ↓chk, justK, ↓oneK, ↓pureK, ↓thenA_normal, ↓thenA_exit, ↓blockA_exit, ↓stepEv, opnd, Pg.look, binK, intOp, Bool.false_eq_true, implies_true, valV, heapV, footV, binV, intV, alives, closeQ_nil, diagQ_zero, retA, resK, tupA, subA, subQ, ptrsE, frzO, subF, subG, pickOf, frzE, frzC, frz0, frzH, Pg.freeze, List.foldl_nil, List.foldl_cons, subOs, subEv, subV_succ, subM, objAt, res_succ, resM, frzAt, List.getElem?_cons_zero, Nat.reduceEqDiff, List.append_nil, List.length_nil, List.set_cons_zero, ite_true, ite_false, List.all_cons, List.all_nil, Bool.and_self, and_self, pickOK_nil, List.length_map, pureB_strs, resIn, List.contains_cons, List.contains_nil, Bool.or_false, beq_self_eq_true, regH_none, isNext, nextF, nextG, selC_false, kGrowR, hcf]

def kConcatR : C1 := C1.by [.sl 1 [some 1]] (lOne (cSl 1 cStrs)) (fun d => d.flatten.length ≤ 1099511627776 ∧ d.length ≤ 1048576) (fun d => .sl 1 (d.flatten.map .str)) (fun _ => [])
theorem ok_ConcatR : C1OK Try.prog 50 kConcatR := C1OK.by (by kernel_rfl) (fun d h => calls_ConcatR d h.1 h.2) (fun _ => rfl) (fun _ => rfl)
end Go.Pg
