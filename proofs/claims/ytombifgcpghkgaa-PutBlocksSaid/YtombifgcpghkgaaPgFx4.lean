/- A call that returns a new, empty slice with room; slices.Grow of nil; slices.Concat. Plain laws of typing. The program's own changes are made. The library's functions that texts side by side use. A text put into lines side by side: the parts. Which registers may be put; strings filled up, repeated. -/
import Derived.Test.YtombifgcpghkgaaPgFx3
import Derived.Shelf.Spec.SlicesGrow
import Derived.Test.YtombifgcpghkgaaPgFx1
import Derived.Test.YtombifgcpghkgaaPgLib
import Derived.Test.YtombifgcpghkgaaPgShf
import Derived.Lib.IndexLaws
namespace Go.Pg
open Go Go.Proofs Go.Shelf

theorem callsR_new {P : Program} {f : FuncId} {args : List AV} {t : TypeId} {sz : Nat}
    (h : ∀ (E : Env) (vals : Array Value), VRs E args vals → Calls P f vals E.W fun e W' => ∃ (C : Array Value) (cap : Nat), e = .returned (.slice (some ⟨E.W.heap.size, 0, none⟩) 0 cap) ∧ SameBut E.W W' ∧ W'.heap = E.W.heap.push (.cells C t (0, 0)) ∧ C.size = cap * sz ∧ cap ≤ maxLen) :
    CallsR P f args [] (.own 0 sz 0) [.arr t sz []] := by
  intro E vals hr hv
  refine (h E vals hv).mono fun e W' ⟨C, cap, he, hs, hh, hC, hcap⟩ => ?_
  have hM0 : ∀ id, E.M id = none := fun id => hr.dom id (Nat.zero_le _)
  have hr0 : Rel [.arr t sz []] { E with hl := hlOf [.arr t sz []] } := by
    have no : ∀ {id : Nat} {m : Option Nat} {p : Prop}, ({ E with hl := hlOf [.arr t sz []] } : Env).M id = some m → p := fun {id m p} hm => by
      have := hM0 id
      rw [show E.M id = some m from hm] at this
      cases this
    exact ⟨rfl, fun id _ => hM0 id, fun id e sz vs _ m hm => no hm, fun id e sz vs b _ hm => no hm, fun id e sz vs b _ hm => no hm, fun id id' e sz vs e' sz' vs' b _ _ hm => no hm, hr.stlt⟩
  obtain ⟨E', hW, hr', hst, hM, hMid, hhl⟩ := alloc_rel hr0 (id := 0) (hM0 0) (e := t) (sz := sz) (vs := []) rfl (AOle.refl _) hs hh (by simp) (fun k _ hk => by simp at hk) (fun i v hi => by simp at hi)
  have nl : ∀ b, ¬ Live [.arr t sz []] E.M b := fun b ⟨id, e, sz, vs, _, h2⟩ => by rw [hM0 id] at h2; cases h2
  have nl0 : ∀ b, ¬ Live [] E.M b := fun b ⟨id, e, sz, vs, h1, _⟩ => by simp at h1
  have hL : Live [.arr t sz []] E.M = Live [] E.M := funext fun b => propext ⟨fun h => (nl b h).elim, fun h => (nl0 b h).elim⟩
  refine ⟨_, E', he, hW, .own 0 sz 0 _ cap (by rw [hMid]; rfl) (fun h => by cases h) (fun L hLL => ?_), hr', ?_⟩
  · rw [hr'.hl] at hLL
    have : L = 0 := by simpa [hlOf, AO.len] using hLL.symm
    subst this
    exact ⟨Nat.le_refl _, fun _ => .inr ⟨E.W.heap.size, C, t, (0, 0), hMid, rfl, Nat.zero_le _, hcap, by rw [hW, hh]; simp, hC⟩⟩
  · refine ⟨?_, ⟨fun id hi => by rw [hM0 id] at hi; simp at hi, fun id L' hi => by rw [hM0 id] at hi; simp at hi⟩, fun b hb => ?_⟩
    · have := hst.mv
      rw [show Live [.arr t sz []] ({ E with hl := hlOf [.arr t sz []] } : Env).M = Live [] E.M from hL] at this
      exact this
    · rcases hst.live b hb with h | h
      · exact (nl b h).elim
      · exact .inr h

def growRen : Go.Shelf.Ren := ⟨fun | 4 => 78 | n => n, fun | 0 => 0 | 3 => 3 | 4 => 4 | 9 => 9 | 20 => 20 | 22 => 22 | 25 => 9 | n => n, fun | n => n⟩
theorem growLays : Lays8.n4 Try.prog growRen := {
  mixed := by kernel_rfl
  f4 := ⟨Try.f78.name, by decide, Try.func78.trans (congrArg some (by kernel_rfl))⟩
  t0 := Try.underlying0
  a0 := Try.isAgg0
  z0 := Try.sizeOf0
  v0 := Try.zeroValue0
  t3 := Try.underlying3
  a3 := Try.isAgg3
  z3 := Try.sizeOf3
  v3 := Try.zeroValue3
  t4 := Try.underlying4
  a4 := Try.isAgg4
  z4 := Try.sizeOf4
  v4 := Try.zeroValue4
  t9 := Try.underlying9
  a9 := Try.isAgg9
  z9 := Try.sizeOf9
  v9 := Try.zeroValue9
  t20 := Try.underlying20
  a20 := Try.isAgg20
  z20 := Try.sizeOf20
  v20 := Try.zeroValue20
  t22 := Try.underlying22
  a22 := Try.isAgg22
  z22 := Try.sizeOf22
  v22 := Try.zeroValue22 }

theorem calls_Grow (n : Nat) (h1 : 0 < n) (h2 : n ≤ 1099511627776) : CallsR Try.prog 78 [.nls, .int .i64 n] [] (.own 0 1 0) [.arr 9 1 []] := by
  refine callsR_new fun E vals hv => ?_
  obtain ⟨u, v, rfl, k1, k2⟩ := hv.two
  rw [k1.nls_inv, k2.int_inv]
  have hi : ∃ i0 z, Try.prog.info? 9 = some i0 ∧ i0.zero = some z ∧ i0.size = 1 ∧ i0.bytes = 16 ∧ z.cells.size = 1 := by
    have h : (match Try.prog.info? 9 with
      | some i => match i.zero with
        | some z => i.size == 1 && i.bytes == 16 && z.cells.size == 1
        | none => false
      | none => false) = true := by kernel_rfl
    split at h
    · next i hi =>
      split at h
      · next z hz =>
        simp only [Bool.and_eq_true, beq_iff_eq] at h
        exact ⟨i, z, hi, hz, h.1.1, h.1.2, h.2⟩
      · cases h
    · cases h
  obtain ⟨i0, z, hi0, hz, hs1, hb1, hc1⟩ := hi
  refine (Any8.slices_Grow_grow growLays i0 z hi0 hz (by omega) none 0 0 n [] E.W (Nat.le_refl _) (by omega) (by rw [hb1]; omega) (by omega) (by simp) (fun _ => rfl) (fun a ha => by cases ha)).mono fun e W' ⟨he, hw⟩ => ?_
  obtain ⟨hsb, hh⟩ := drew_same E.W (.cells (([] : List Value).toArray ++ Builtin.zeroCells z.cells (0 + n - 0) ++ Builtin.zeroCells z.cells (grownCap E.W (0 + n) 0 9 - (0 + n))) 9)
  have hge := grownCap_ge E.W (0 + n) 0 9
  refine ⟨_, grownCap E.W (0 + n) 0 9, he, by rw [hw]; exact hsb, by rw [hw]; exact hh, ?_, grownCap_le_maxLen E.W _ 0 _ (by unfold maxLen; omega)⟩
  rw [Array.size_append, Array.size_append, growZ hc1, growZ hc1]
  simp only [Nat.zero_add] at hge
  simp only [List.size_toArray, List.length_nil, Nat.zero_add, Nat.sub_zero, ← Nat.add_mul]
  rw [show n + (grownCap E.W n 0 9 - n) = grownCap E.W n 0 9 by omega]

def kGrow : C1 := C1.by [.id, .id] (lCons cAny (lOne (cInt .i64))) (fun d => d.1 = .nls ∧ 0 < d.2 ∧ d.2 ≤ 1099511627776) (fun _ => .own 0 1 0) (fun _ => [.arr 9 1 []])
theorem ok_Grow : C1OK Try.prog 78 kGrow := C1OK.by (by kernel_rfl) (fun d h => by
  obtain ⟨a, n⟩ := d
  obtain ⟨h1, h2, h3⟩ := h
  simp only at h1 h2 h3
  subst h1
  have := calls_Grow n.toNat (by omega) (by omega)
  rw [show ((n.toNat : Nat) : Int) = n by omega] at this
  exact this) (fun _ => rfl) (fun _ => rfl)

def aStrs (l : Ls) : AV := .sl 1 (l.map .str)
theorem pureB_strss (l : List Ls) : (l.map aStrs).all AV.pureB = true := by simp [aStrs, AV.pureB, AV.cells, AV.pureLeaf]
theorem getD_strss (l : List Ls) (i : Nat) : (l.map aStrs).getD i (.sl 1 []) = aStrs (l.getD i []) := getD_map aStrs l i []

theorem flat_take (l : List Ls) (i : Nat) (h : i < l.length) : (l.take (i + 1)).flatten = (l.take i).flatten ++ l.getD i [] := by
  rw [List.take_add_one, List.flatten_append, List.getElem?_eq_getElem h, List.getD_eq_getElem?_getD, List.getElem?_eq_getElem h]
  simp

set_option maxRecDepth 20000 in
set_option maxHeartbeats 4000000 in
theorem calls_Concat (l : List Ls) (h0 : 0 < l.flatten.length) (h1 : l.flatten.length ≤ 1099511627776) (h2 : l.length ≤ 1048576) :
    CallsR Try.prog 70 [.sl 1 (l.map aStrs)] [] (.sl 1 (l.flatten.map .str)) [] := by
  refine callsR_of (mrg := true) (dyn := []) (CtrOK.cons ok_Grow (CtrOK.nil _)) mixed Try.func70 rfl (by simp [Try.ntmps70]) (by kernel_rfl) ?_
  rw [show Try.f70.results.toList = [.tmp 2] from by kernel_rfl]
  have hle : ∀ i, (l.take i).flatten.length ≤ l.flatten.length := fun i => by
    have := congrArg (fun x : List Ls => x.flatten.length) (List.take_append_drop i l)
    simp only [List.flatten_append, List.length_append] at this
    omega
  simp (maxSteps := 4000000) only [↓wpA_H, ↓wpH_seq, ↓wpH_block, ↓wpH_loop, ↓wpH_region, bselH_false, runH_nil, runH_cons, gw, gselH_plain, ↓chk, justK, ↓oneK, ↓pureK, envOf, ↓thenA_normal, ↓stepEv, opnd, Pg.look, Bool.false_eq_true, implies_true, true_and, and_true, valV, heapV, footV, ofV, ofLeaf, slen, Option.getD_some, reduceCtorEq, Nat.reduceEqDiff, List.length_nil, ite_true, ite_false, Option.some.injEq, AV.int.injEq, and_self, exists_eq_left', List.length_map, List.contains_nil, tk93, kGrow]
  refine loopH_intro (α := Nat) (fun i => ([(0, .sl 1 (l.map aStrs)), (2, .nls), (3, .int .i64 (l.take i).flatten.length), (9, .sl 1 (l.map aStrs)), (10, .int .i64 l.length), (11, .int .i64 i)], [])) (fun i => i ≤ l.length) (fun i => l.length - i) 0 (by omega) ?_ ?_
  · simp (maxSteps := 4000000) only [Pg.look, true_and, and_true, subA, subQ, ptrsE, frzO, subF, subG, pickOf, frzE, frzC, frz0, frzH, Pg.freeze, List.foldl_nil, subOs, subEv, subV_succ, subM, reduceCtorEq, Nat.reduceEqDiff, List.append_nil, ite_true, ite_false, and_self, pickOK_nil, Int.cast_ofNat_Int, List.take_zero]
    all_goals simp
  intro i hi
  by_cases hlt : i < l.length
  · have hct : decide ((i : Int) < l.length) = true := decide_eq_true (by omega)
    have hfl := flat_take l i hlt
    have hfl2 : (l.take (i + 1)).flatten.length = (l.take i).flatten.length + (l.getD i []).length := by rw [hfl, List.length_append]
    have hl2 := hle (i + 1)
    have w1 : IntKind.i64.wrap (((l.take i).flatten.length : Int) + ((l.getD i []).length : Int)) = ((l.take (i + 1)).flatten.length : Int) := by rw [wrap64 (by omega) (by omega)]; omega
    have hneg : decide (((l.take (i + 1)).flatten.length : Int) < 0) = false := decide_eq_false (by omega)
    simp (maxSteps := 4000000) only [↓wpA_H, ↓wpH_skip, ↓wpH_seq, ↓wpH_cond, ↓wpH_block, ↓wpH_region, ↓iselH_true, ↓iselH_false, bselH_false, runH_nil, runH_cons, gw, gselH_plain, cselH_bool, ↓chk, justK, noW, ↓oneK, ↓pureK, ↓heapK, ↓thenA_normal, ↓blockA_normal, ↓stepEv, opnd, Pg.look, binK, intOp, Bool.false_eq_true, implies_true, true_and, and_true, valV, heapV, footV, binV, intV, ofV, ofLeaf, subA, subQ, ptrsE, frzO, subF, subG, pickOf, frzE, frzC, frz0, frzH, Pg.freeze, List.foldl_nil, subOs, subEv, subV_succ, subM, slen, ldCells, AV.cells, TK.cells, List.getElem?_cons_zero, Option.getD_some, reduceCtorEq, Nat.reduceEqDiff, List.append_nil, ite_true, ite_false, Option.some.injEq, AV.int.injEq, and_self, exists_eq_left', pickOK_nil, List.length_map, List.contains_nil, Int.toNat_natCast, tk22, dz22, tk93, kGrow, hct, getD_strss, aStrs, w1, hneg]
    exact ⟨⟨by omega, hlt⟩, i + 1, by omega, by omega, rfl, by rw [wrap64 (by omega) (by omega)]; rfl⟩
  · have hcf : decide ((i : Int) < l.length) = false := decide_eq_false (by omega)
    have hil : i = l.length := by omega
    subst hil
    rw [List.take_length]
    simp (maxSteps := 4000000) only [↓wpA_H, ↓wpH_exit, ↓wpH_seq, ↓wpH_cond, ↓wpH_block, ↓wpH_loop, ↓wpH_region, ↓iselH_false, bselH_false, runH_nil, runH_cons, gw, gselH_plain, cselH_bool, ↓chk, justK, ↓oneK, ↓pureK, ↓thenA_normal, ↓thenA_exit, ↓blockA_exit, ↓stepEv, opnd, Pg.look, binK, intOp, Bool.false_eq_true, implies_true, true_and, and_true, valV, heapV, footV, binV, intV, ofV, ofLeaf, retA, Pg.freeze, List.foldl_nil, slen, ↓callT, callC, callV, callH, normArgs, normA, resL, res8_eq, res_succ, resM, shiftR, shift1, Option.getD_some, reduceCtorEq, Nat.reduceEqDiff, List.nil_append, List.append_nil, List.length_cons, List.length_nil, List.map_cons, List.map_nil, Nat.zero_add, ite_true, ite_false, Option.some.injEq, AV.int.injEq, and_self, exists_eq_left', List.length_map, cInt_dec, cAny_dec, lOne_dec, lCons_dec, dec2_some, List.contains_nil, C1by_ns, C1by_pre, C1by_r, C1by_H, optP_some, optV_some, optH_some, Nat.add_zero, tk93, kGrow, hcf]
    refine ⟨⟨by omega, by omega⟩, ?_⟩
    refine loopH_intro (α := Nat) (fun i => ([(2, .nls), (6, .own 0 1 (l.take i).flatten.length), (25, .sl 1 (l.map aStrs)), (26, .int .i64 l.length), (27, .int .i64 i)], [.arr 9 1 ((l.take i).flatten.map .str)])) (fun i => i ≤ l.length) (fun i => l.length - i) 0 (by omega) ?_ ?_
    · simp (maxSteps := 4000000) only [Pg.look, true_and, and_true, subA, subQ, ptrsE, pairsO, frzO, subF, subG, pickOf, assocN, pairsE, pairsC, pairs0, frzE, frzC, frz0, frzH, Pg.freeze, List.foldl_nil, subOs, subO, subEv, subV_succ, subM, List.getElem?_cons_zero, reduceCtorEq, Nat.reduceEqDiff, List.nil_append, List.append_nil, ite_true, ite_false, and_self, pickOK_one, Int.cast_ofNat_Int, List.take_zero, Nat.lt_irrefl]
      exact ⟨subX_eq rfl rfl, rfl⟩
    intro i hi
    by_cases hlt : i < l.length
    · have hct : decide ((i : Int) < l.length) = true := decide_eq_true (by omega)
      have hfl := flat_take l i hlt
      have hfl2 : (l.take (i + 1)).flatten.length = (l.take i).flatten.length + (l.getD i []).length := by rw [hfl, List.length_append]
      have hl2 := hle (i + 1)
      simp (maxSteps := 4000000) only [↓wpA_H, ↓wpH_skip, ↓wpH_seq, ↓wpH_cond, ↓wpH_block, ↓wpH_region, ↓iselH_true, bselH_false, runH_nil, runH_cons, gw, gselH_plain, cselH_bool, ↓chk, justK, noW, ↓oneK, ↓pureK, ↓heapK, ↓thenA_normal, ↓blockA_normal, ↓stepEv, opnd, Pg.look, binK, intOp, Bool.false_eq_true, implies_true, true_and, and_true, valV, heapV, footV, binV, intV, ofV, ofLeaf, subA, subQ, ptrsE, pairsO, frzO, subF, subG, pickOf, assocN, pairsE, pairsC, pairs0, frzE, frzC, frz0, frzH, Pg.freeze, List.foldl_nil, subOs, subO, subEv, subV_succ, subM, srcV, srcE, appK, ldCells, AV.cells, TK.cells, List.getElem?_cons_zero, Option.getD_some, Nat.reduceEqDiff, List.nil_append, List.append_nil, List.set_cons_zero, ite_true, ite_false, Option.some.injEq, not_false_eq_true, and_self, exists_eq_left', pickOK_one, List.length_map, not_mem_nil, app_strs, leafy_strs, List.contains_nil, Int.toNat_natCast, Nat.lt_irrefl, eb9, tk22, dz22, tk93, kGrow, hct, getD_strss, aStrs]
      exact ⟨⟨by omega, hlt⟩, by omega, i + 1, by omega, by omega, subX_eq (by rw [hfl]) (pureB_strs _), hfl2.symm, by rw [wrap64 (by omega) (by omega)]; rfl⟩
    · have hcf : decide ((i : Int) < l.length) = false := decide_eq_false (by omega)
      have hil : i = l.length := by omega
      subst hil
      rw [List.take_length]
      simp (maxSteps := 4000000) only [↓wpA_H, ↓wpH_ret, ↓wpH_exit, ↓wpH_seq, ↓wpH_cond, ↓wpH_region, ↓iselH_false, bselH_false, runH_nil, runH_cons, gw, gselH_plain, cselH_bool, ↓chk, justK, ↓oneK, ↓pureK, ↓thenA_normal, ↓thenA_exit, ↓blockA_exit, ↓stepEv, opnd, Pg.look, binK, intOp, Bool.false_eq_true, implies_true, valV, heapV, footV, binV, intV, retA, resK, tupA, subA, subQ, ptrsE, frzO, subF, subG, pickOf, frzE, frzC, frz0, frzH, Pg.freeze, List.foldl_nil, List.foldl_cons, subOs, subEv, subV_succ, subM, objAt, res_succ, resM, frzAt, List.getElem?_cons_zero, Nat.reduceEqDiff, List.append_nil, List.length_nil, List.set_cons_zero, ite_true, ite_false, List.all_cons, List.all_nil, Bool.and_self, and_self, pickOK_nil, List.length_map, pureB_strs, resIn, List.contains_cons, List.contains_nil, Bool.or_false, beq_self_eq_true, kGrow, hcf]

def kConcat : C1 := C1.by [.sl 1 [some 1]] (lOne (cSl 1 cStrs)) (fun d => 0 < d.flatten.length ∧ d.flatten.length ≤ 1099511627776 ∧ d.length ≤ 1048576) (fun d => .sl 1 (d.flatten.map .str)) (fun _ => [])
theorem ok_Concat : C1OK Try.prog 70 kConcat := C1OK.by (by kernel_rfl) (fun d h => calls_Concat d h.1 h.2.1 h.2.2) (fun _ => rfl) (fun _ => rfl)
end Go.Pg
namespace Go.Pg
open Go Go.Proofs

theorem apply1_at (ls : Ls) (p : Int) (new : Ls) (h0 : 0 ≤ p) (h1 : p.toNat < ls.length) (hn : 0 < new.length) :
    apply1 ls (p, [ls.getD p.toNat []], new) = (ls.take p.toNat ++ new ++ ls.drop (p.toNat + 1), true) := by
  have e : apply1 ls (p, [ls.getD p.toNat []], new) = _ := if_neg ?_
  · rw [e]; rfl
  · have hc : cutL ls p.toNat (p + (([ls.getD p.toNat []] : Ls).length : Int)).toNat = [ls.getD p.toNat []] := by
      unfold cutL
      have : (p + (([ls.getD p.toNat []] : Ls).length : Int)).toNat - p.toNat = 1 := by simp; omega
      rw [this, take1_drop ls p.toNat [] h1]
    intro h
    dsimp only at h
    rw [hc] at h
    simp only [beq_self_eq_true, Bool.not_true, Bool.or_false, Bool.or_eq_true, decide_eq_true_eq, beq_iff_eq, List.length_cons, List.length_nil] at h
    omega
theorem applyL_at (ls : Ls) (p : Int) (new : Ls) (h0 : 0 ≤ p) (h1 : p.toNat < ls.length) (hn : 0 < new.length) :
    applyL ls [(p, [ls.getD p.toNat []], new)] = (ls.take p.toNat ++ new ++ ls.drop (p.toNat + 1), true) := by
  rw [applyL1, apply1_at ls p new h0 h1 hn]; rfl
theorem applyL_set (ls : Ls) (p : Int) (x : List UInt8) (h0 : 0 ≤ p) (h1 : p.toNat < ls.length) :
    applyL ls [(p, [ls.getD p.toNat []], [x])] = (ls.set p.toNat x, true) := by
  rw [applyL_at ls p [x] h0 h1 (by simp), List.set_eq_take_append_cons_drop, if_pos h1]
  simp

theorem letter_of (k : UInt8) (h1 : ¬ k.toNat < 32) (h2 : k.toNat ≠ 127) : letter k.toNat = true := by
  unfold letter
  have a : decide ((k.toNat : Int) ≥ 32) = true := by simp; omega
  have b : ((k.toNat : Int) != 127) = true := by simp; omega
  rw [a, b]; rfl

theorem typ_letter (ls : Ls) (p1 p2 : Int) (f : Int × Int) (m : Int) (k : UInt8) (hp : place ls p1 p2 = true) (hm : (m == 1 || m == 2) = true) (hl : letter k.toNat = true) :
    typ ls (p1, p2) f m k = ((p1, [ls.getD p1.toNat []], [(ls.getD p1.toNat []).take p2.toNat ++ [k] ++ (if (m == 2) = true then ((ls.getD p1.toNat []).drop p2.toNat).drop 1 else (ls.getD p1.toNat []).drop p2.toNat)]), (p1, p2 + 1), true) := by
  have e : typ ls (p1, p2) f m k = _ := if_pos (by simp only [hp, hm]; rfl)
  rw [e, if_pos hl]
theorem typ_break (ls : Ls) (p1 p2 : Int) (f : Int × Int) (m : Int) (k : UInt8) (hp : place ls p1 p2 = true) (hm : (m == 1 || m == 2) = true) (hl : letter k.toNat = false) (hk : (k.toNat == (13 : Int) || k.toNat == (10 : Int)) = true) :
    typ ls (p1, p2) f m k = ((p1, [ls.getD p1.toNat []], [(ls.getD p1.toNat []).take p2.toNat, (ls.getD p1.toNat []).drop p2.toNat]), (p1 + 1, 0), true) := by
  have e : typ ls (p1, p2) f m k = _ := if_pos (by simp only [hp, hm]; rfl)
  rw [e, if_neg (by rw [hl]; simp), if_pos hk]
theorem typ_none (ls : Ls) (p1 p2 : Int) (m : Int) (k : UInt8) (hl : letter k.toNat = false) (hk : (k.toNat == (13 : Int) || k.toNat == (10 : Int)) = false) :
    typ ls (p1, p2) (p1, p2) m k = nothing := by
  unfold typ
  dsimp only
  split
  · rw [if_neg (by rw [hl]; simp), if_neg (by rw [hk]; simp), if_neg ?_]
    intro h
    simp at h
  · rfl

theorem getD_set_self (ls : Ls) (i : Nat) (x : List UInt8) (h : i < ls.length) : (ls.set i x).getD i [] = x := by
  rw [getD_setL]; simp [h]

/-- What is typed stands where it was typed. -/
theorem typedL_text (f : Int × Int) (p1 : Int) : ∀ (ks : List UInt8) (ls : Ls) (p2 : Int), place ls p1 p2 = true → (∀ k ∈ ks, letter k.toNat = true) →
    typedL ls (p1, p2) f ks = (ls.set p1.toNat ((ls.getD p1.toNat []).take p2.toNat ++ ks ++ (ls.getD p1.toNat []).drop p2.toNat), (p1, p2 + ks.length), true) := by
  intro ks
  induction ks with
  | nil =>
    intro ls p2 hp _
    obtain ⟨a1, a2, a3, a4⟩ := (place_iff ..).1 hp
    simp only [typedL, List.append_nil, List.take_append_drop]
    have : ls.set p1.toNat (ls.getD p1.toNat []) = ls := by
      rw [List.getD_eq_getElem?_getD, List.getElem?_eq_getElem a2]; simp
    rw [this]; simp
  | cons k ks ih =>
    intro ls p2 hp hk
    obtain ⟨a1, a2, a3, a4⟩ := (place_iff ..).1 hp
    have hl := hk k (by simp)
    have e1 := typ_letter ls p1 p2 f 1 k hp rfl hl
    rw [if_neg (by decide)] at e1
    rw [typedL, e1]
    simp only
    rw [applyL_set ls p1 _ a1 a2]
    simp only [Bool.and_self, if_true]
    generalize hs : ls.getD p1.toNat [] = s at *
    have hp' : place (ls.set p1.toNat (s.take p2.toNat ++ [k] ++ s.drop p2.toNat)) p1 (p2 + 1) = true := by
      rw [place_iff]
      refine ⟨a1, by simpa using a2, by omega, ?_⟩
      rw [getD_set_self ls _ _ a2]
      simp only [List.length_append, List.length_take, List.length_drop, List.length_cons, List.length_nil]
      omega
    rw [ih _ (p2 + 1) hp' (fun k' hk' => hk k' (by simp [hk'])), getD_set_self ls _ _ a2]
    have hn : (p2 + 1).toNat = p2.toNat + 1 := by omega
    have hlen : (s.take p2.toNat ++ [k]).length = p2.toNat + 1 := by simp only [List.length_append, List.length_take, List.length_cons, List.length_nil]; omega
    have ht : (s.take p2.toNat ++ [k] ++ s.drop p2.toNat).take (p2 + 1).toNat = s.take p2.toNat ++ [k] := by rw [hn, ← hlen, List.take_left]
    have hd : (s.take p2.toNat ++ [k] ++ s.drop p2.toNat).drop (p2 + 1).toNat = s.drop p2.toNat := by rw [hn, ← hlen, List.drop_left]
    rw [ht, hd]
    have e1 : (p2 + 1 + (ks.length : Int)) = p2 + ((k :: ks).length : Int) := by simp only [List.length_cons]; omega
    rw [List.set_set, e1]
    simp only [List.append_assoc, List.cons_append, List.nil_append]
end Go.Pg
namespace Go.Pg
open Go Go.Proofs

theorem fl3 (a b c : Ls) : [a, b, c].flatten = a ++ b ++ c := by simp

set_option maxRecDepth 20000 in
set_option maxHeartbeats 4000000 in
theorem calls_capply (ls : Ls) (x : Ch) (h1 : ls.length ≤ 274877906944) (h2 : x.2.1.length ≤ 274877906944) (h3 : x.2.2.length ≤ 274877906944) :
    CallsR Try.prog 48 [.sl 1 (ls.map .str), aCh x] [] (.tuple [.sl 1 ((apply1 ls x).1.map .str), .bool (apply1 ls x).2]) [] := by
  obtain ⟨i, o, n⟩ := x
  refine callsR_of (mrg := true) (dyn := [5]) (CtrOK.cons ok_Equal (CtrOK.cons ok_Concat (CtrOK.nil _))) mixed Try.func48 rfl (by simp [Try.ntmps48]) (by kernel_rfl) ?_
  rw [show Try.f48.results.toList = [.tmp 4, .tmp 5] from by kernel_rfl]
  simp (maxSteps := 4000000) only [↓wpA_H, ↓wpH_skip, ↓wpH_ret, ↓wpH_seq, ↓wpH_cond, ↓wpH_region, bselH_true, iselH_if, bselH_false, runH_nil, runH_cons, gw, gselH_plain, gselH_if, kselH_1, cselH_bool, gkind, ↓chk, justK, noW, ↓oneK, ↓pureK, ↓heapK, envOf, ↓thenA_normal, ↓thenA_ret, ↓stepEv, opnd, Pg.look, binK, intOp, dstOf, Bool.false_eq_true, false_implies, implies_true, imp_self, true_and, and_true, forall_const, pickC, pickV, unc, gof, mux, mergeK, condsL, valV, heapV, footV, binV, intV, cutV, mergeable, look_stripE, ofV, ofLeaf, sameK, retA, resK, tupA, subA, subQ, ptrsE, frzO, subF, subG, pickOf, frzE, frzC, frzL, frz0, frzH, Pg.freeze, List.foldl_nil, List.foldl_cons, subOs, subEv, subV_succ, subM, subL, slen, ldCells, objAt, sliceL, ↓callT, callC, callV, callH, normArgs, normA, normC, normE, resL, res8_eq, res_succ, resM, shiftR, shift1, AV.cells, TK.cells, AV.definite, AV.pureLeaf, AV.pureB, frzAt, Op.operands, Call.operands, Array.toList_append, List.getElem?_toArray, List.getElem?_cons_succ, List.getElem?_cons_zero, Option.bind_some, Option.map_some, Option.map_none, Option.getD_some, reduceCtorEq, Nat.reduceEqDiff, Nat.reduceAdd, List.nil_append, List.append_nil, List.cons_append, List.length_cons, List.length_nil, List.map_cons, List.map_nil, List.set_cons_zero, List.set_cons_succ, Nat.zero_add, ite_true, ite_false, Option.some.injEq, Option.isSome_some, AV.int.injEq, Prod.mk.injEq, Bool.if_true_left, Bool.decide_eq_true, decide_eq_true_eq, decide_eq_false_iff_not, Int.not_lt, List.all_cons, List.all_nil, Bool.and_self, and_self, Bool.not_eq_true', exists_eq_left', pickOK_nil, List.length_map, List.toList_toArray, List.length_append, rg3, cSl_dec, lOne_dec, lCons_dec, dec2_some, List.contains_cons, List.contains_nil, Nat.reduceBEq, Bool.or_self, Bool.or_false, beq_self_eq_true, decL_nil, decL_cons, consO_some, List.range'_zero, Nat.reducePow, decL_str, C1by_ns, C1by_pre, C1by_r, C1by_H, optP_some, optV_some, optH_some, ← List.map_drop, ← List.map_take, List.getD_cons_zero, cutL, Nat.add_zero, Nat.reduceLeDiff, Nat.mul_one, Nat.zero_lt_succ, tk3, tk22, eb22, tk35, dz35, tk93, kStrings, kConcat, aCh, fl3]
  simp only at h2 h3
  by_cases hi : 0 ≤ i ∧ i ≤ ls.length
  · obtain ⟨hi1, hi2⟩ := hi
    rw [wrap64 (n := (ls.length : Int) - i) (by omega) (by omega), wrap64 (n := i + (o.length : Int)) (by omega) (by omega), wrap64 (n := (ls.length : Int) - o.length) (by omega) (by omega), wrap64 (n := (ls.length : Int) - o.length + n.length) (by omega) (by omega)]
    have hk : (i + (o.length : Int)).toNat = i.toNat + o.length := by omega
    refine ⟨fun h => ?_, fun h => ⟨⟨hi1, by omega, ?_⟩, ⟨?_, by omega⟩, fun h4 => ?_, fun h4 => ⟨⟨hi1, hi2⟩, ⟨by omega, ?_⟩, ⟨?_, ?_⟩, ?_⟩⟩⟩
    · have e : apply1 ls (i, o, n) = ([], false) := if_pos (by
        simp only [Bool.or_eq_true] at h ⊢
        rcases h with ((h | h) | h) | h
        · exact .inl (.inl (.inl (.inl h)))
        · exact .inl (.inl (.inl (.inr h)))
        · exact .inl (.inl (.inr h))
        · exact .inr h)
      rw [e]
      exact ⟨rfl, rfl⟩
    · simp only [Bool.or_eq_false_iff, decide_eq_false_iff_not] at h
      omega
    · rw [List.length_take, List.length_drop]; omega
    · have e : apply1 ls (i, o, n) = ([], false) := if_pos (by
        simp only [cutL, h4, Bool.not_false, Bool.or_true, Bool.true_or])
      rw [e]
      exact ⟨rfl, rfl⟩
    · simp only [Bool.or_eq_false_iff, decide_eq_false_iff_not] at h
      omega
    · simp only [Bool.or_eq_false_iff, decide_eq_false_iff_not, beq_eq_false_iff_ne, ne_eq] at h
      rw [List.length_take, List.length_drop]; omega
    · rw [List.length_take, List.length_drop]; omega
    · have e : apply1 ls (i, o, n) = _ := if_neg (by
        simp only [Bool.or_eq_false_iff] at h
        have h4' := h4
        simp only [cutL, h.1.1.1, h.1.1.2, h.1.2, h.2, h4', Bool.or_false]
        decide)
      rw [e, hk]
      exact ⟨rfl, rfl, rfl⟩
  · have hb : (decide (i < 0) || decide (i > (ls.length : Int))) = true := by
      simp only [Bool.or_eq_true, decide_eq_true_eq]; omega
    have e : apply1 ls (i, o, n) = ([], false) := if_pos (by simp only [hb, Bool.true_or])
    simp only [hb, Bool.true_or, e]
    simp

def kCApply1 : C1 := C1.by [.sl 1 [], .ag [none, some 1, some 1]] (lCons cStrs (lOne (cAgg (lCons (cInt .i64) (lCons cStrs (lOne cStrs))))))
  (fun d => d.1.length ≤ 274877906944 ∧ d.2.2.1.length ≤ 274877906944 ∧ d.2.2.2.length ≤ 274877906944)
  (fun d => .tuple [.sl 1 ((apply1 d.1 d.2).1.map .str), .bool (apply1 d.1 d.2).2]) (fun _ => [])
theorem ok_capply : C1OK Try.prog 48 kCApply1 := C1OK.by (by kernel_rfl) (fun d h => calls_capply d.1 d.2 h.1 h.2.1 h.2.2) (fun _ => rfl) (fun _ => rfl)

theorem apply1_no {ls : Ls} {x : Ch} (h : (apply1 ls x).2 = false) : (apply1 ls x).1 = [] := by
  unfold apply1 at h ⊢
  split
  · rfl
  · next hc =>
    rw [if_neg hc] at h
    cases h

set_option maxRecDepth 20000 in
set_option maxHeartbeats 4000000 in
theorem calls_CApply (ls : Ls) (x : Ch) (h1 : ls.length ≤ 1099511627) (h2 : x.2.1.length ≤ 1099511627) (h3 : x.2.2.length ≤ 1099511627) :
    CallsR Try.prog 30 [.sl 1 (ls.map .str), .sl 3 [aCh x]] [] (.tuple [.sl 1 ((apply1 ls x).1.map .str), .bool (apply1 ls x).2]) [] := by
  refine callsR_of (mrg := true) (dyn := []) (CtrOK.cons ok_Clone (CtrOK.cons ok_capply (CtrOK.nil _))) mixed Try.func30 rfl (by simp [Try.ntmps30]) (by kernel_rfl) ?_
  rw [show Try.f30.results.toList = [.tmp 4, .tmp 5] from by kernel_rfl]
  simp (maxSteps := 4000000) only [↓wpA_H, ↓wpH_seq, ↓wpH_block, ↓wpH_loop, ↓wpH_region, bselH_false, runH_nil, runH_cons, gw, gselH_plain, ↓chk, justK, ↓oneK, ↓pureK, envOf, ↓thenA_normal, ↓stepEv, opnd, Pg.look, Bool.false_eq_true, false_implies, implies_true, true_and, and_true, valV, heapV, footV, ofV, ofLeaf, Pg.freeze, List.foldl_nil, slen, ↓callT, callC, callV, callH, normArgs, normA, normC, resL, res8_eq, res_succ, resM, shiftR, shift1, Option.getD_some, reduceCtorEq, Nat.reduceEqDiff, List.nil_append, List.append_nil, List.length_cons, List.length_nil, List.map_cons, List.map_nil, Nat.zero_add, ite_true, ite_false, Option.some.injEq, AV.int.injEq, Prod.mk.injEq, and_self, exists_eq_left', cSl_dec, lOne_dec, lCons_dec, List.contains_nil, Int.cast_ofNat_Int, decL_str, C1by_ns, C1by_pre, C1by_r, C1by_H, optP_some, optV_some, optH_some, Nat.add_zero, tk40, kClone, kCApply1, aCh]
  refine ⟨by omega, ?_⟩
  refine loopH_intro (α := Nat × Ls) (fun y => ([(4, .nls), (5, .bool false), (6, .sl 1 (y.2.map .str)), (13, .sl 3 [.agg [.int .i64 x.1, .sl 1 (x.2.1.map .str), .sl 1 (x.2.2.map .str)]]), (14, .int .i64 1), (15, .int .i64 y.1)], []))
    (fun y => (y.1 = 0 ∧ y.2 = ls) ∨ (y.1 = 1 ∧ y.2 = (apply1 ls x).1 ∧ (apply1 ls x).2 = true)) (fun y => 1 - y.1) (0, ls) (.inl ⟨rfl, rfl⟩) ?_ ?_
  · simp (maxSteps := 4000000) only [Pg.look, subA, subQ, ptrsE, frzO, subF, subG, pickOf, frzE, frzC, frz0, frzH, Pg.freeze, List.foldl_nil, List.foldl_cons, subOs, subEv, subV_succ, subM, objAt, res_succ, resM, frzAt, List.getElem?_cons_zero, reduceCtorEq, Nat.reduceEqDiff, List.nil_append, List.append_nil, List.set_cons_zero, ite_true, ite_false, List.all_cons, List.all_nil, Bool.and_self, and_self, pickOK_nil, List.length_map, pureB_strs, resIn, List.contains_cons, List.contains_nil, Bool.or_false, beq_self_eq_true, Int.cast_ofNat_Int]
  intro y hy
  obtain ⟨i, out⟩ := y
  rcases hy with ⟨r1, r2⟩ | ⟨r1, r2, r3⟩
  · simp only at r1 r2
    subst r1
    subst r2
    simp (maxSteps := 4000000) only [↓wpA_H, ↓wpH_skip, ↓wpH_ret, ↓wpH_exit, ↓wpH_seq, ↓wpH_cond, ↓wpH_block, ↓wpH_region, iselH_if, bselH_false, runH_nil, runH_cons, gw, gselH_plain, cselH_bool, ↓chk, justK, noW, ↓oneK, ↓pureK, ↓heapK, ↓thenA_normal, ↓thenA_ret, ↓thenA_exit, ↓blockA_normal, ↓blockA_ret, ↓blockA_exit, ↓stepEv, opnd, Pg.look, binK, intOp, Bool.false_eq_true, false_implies, implies_true, true_and, and_true, forall_const, valV, heapV, footV, binV, intV, ofV, ofLeaf, retA, resK, tupA, subA, subQ, ptrsE, frzO, subF, subG, pickOf, frzE, frzC, frzL, frz0, frzH, Pg.freeze, List.foldl_nil, subOs, subEv, subV_succ, subM, subL, ldCells, objAt, ↓callT, callC, callV, callH, normArgs, normA, normC, normL, resL, res8_eq, res_succ, resM, shiftR, shift1, AV.cells, TK.cells, AV.definite, AV.leaf, AV.leafy, putCells, lay, List.getElem?_cons_succ, List.getElem?_cons_zero, Option.getD_some, Nat.reduceEqDiff, Nat.reduceAdd, List.nil_append, List.append_nil, List.cons_append, List.length_cons, List.length_nil, List.map_cons, List.map_nil, List.set_cons_zero, Nat.zero_add, Int.reduceToNat, ite_true, ite_false, Option.some.injEq, Prod.mk.injEq, decide_eq_true_eq, decide_eq_false_iff_not, not_true_eq_false, List.all_cons, List.all_nil, Bool.and_self, and_self, Bool.not_eq_true', exists_eq_left', pickOK_nil, cInt_dec, Int.reduceLE, Int.reduceLT, cSl_dec, cAgg_dec, lOne_dec, lCons_dec, dec2_some, List.contains_nil, Int.cast_ofNat_Int, List.range'_zero, decL_str, C1by_ns, C1by_pre, C1by_r, C1by_H, optP_some, optV_some, optH_some, List.getD_cons_zero, cutL, List.drop_zero, List.drop_succ_cons, List.take_succ_cons, List.take_zero, Nat.sub_zero, Nat.le_refl, List.drop_nil, List.take_nil, Nat.zero_lt_succ, tk35, tz35, dz35, tk40, kClone, kCApply1]
    have e : ((x.1, x.2.1, x.2.2) : Ch) = x := rfl
    rw [e]
    refine ⟨⟨by omega, by omega, by omega⟩, fun h => ⟨by rw [apply1_no h]; rfl, h.symm⟩, fun h => ?_⟩
    have ht : (apply1 out x).2 = true := by simpa using h
    exact ⟨(1, (apply1 out x).1), .inr ⟨rfl, rfl, ht⟩, (by show (1 : Nat) - 1 < 1; decide), rfl, by rw [wrap64 (by omega) (by omega)]; rfl⟩
  · simp only at r1 r2
    subst r1
    subst r2
    simp (maxSteps := 4000000) only [↓wpA_H, ↓wpH_skip, ↓wpH_ret, ↓wpH_exit, ↓wpH_seq, ↓wpH_cond, ↓wpH_block, ↓wpH_region, iselH_if, bselH_false, runH_nil, runH_cons, gw, gselH_plain, cselH_bool, ↓chk, justK, noW, ↓oneK, ↓pureK, ↓heapK, ↓thenA_normal, ↓thenA_ret, ↓thenA_exit, ↓blockA_normal, ↓blockA_ret, ↓blockA_exit, ↓stepEv, opnd, Pg.look, binK, intOp, Bool.false_eq_true, false_implies, implies_true, true_and, and_true, valV, heapV, footV, binV, intV, ofV, ofLeaf, retA, resK, tupA, subA, subQ, ptrsE, frzO, subF, subG, pickOf, frzE, frzC, frzL, frz0, frzH, Pg.freeze, List.foldl_nil, subOs, subEv, subV_succ, subM, subL, ldCells, objAt, ↓callT, callC, callV, callH, normArgs, normA, normC, normL, resL, res8_eq, res_succ, resM, shiftR, shift1, AV.cells, TK.cells, AV.definite, AV.leaf, AV.leafy, putCells, lay, List.getElem?_cons_succ, List.getElem?_cons_zero, Option.getD_some, Nat.reduceEqDiff, Nat.reduceAdd, List.nil_append, List.append_nil, List.cons_append, List.length_cons, List.length_nil, List.map_cons, List.map_nil, List.set_cons_zero, Nat.zero_add, Int.reduceToNat, ite_true, ite_false, Option.some.injEq, Prod.mk.injEq, decide_eq_true_eq, decide_eq_false_iff_not, not_false_eq_true, List.all_cons, List.all_nil, Bool.and_self, and_self, Bool.not_eq_true', exists_eq_left', pickOK_nil, cInt_dec, Int.reduceLE, Int.reduceLT, cSl_dec, cAgg_dec, lOne_dec, lCons_dec, dec2_some, List.contains_nil, decL_nil, Int.cast_ofNat_Int, List.range'_zero, decL_str, C1by_ns, C1by_pre, C1by_r, C1by_H, optP_some, optV_some, optH_some, List.getD_cons_zero, List.getD_cons_succ, List.getD_nil, cutL, List.drop_zero, List.drop_succ_cons, List.take_succ_cons, List.take_zero, Nat.sub_zero, Nat.sub_self, Nat.le_refl, Nat.lt_irrefl, List.drop_nil, List.take_nil, Nat.not_lt_zero, Nat.zero_lt_succ, Nat.zero_le, tk35, tz35, dz35, tk40, kClone, kCApply1, r3]

def kCApply : C1 := C1.by [.sl 1 [], .sl 3 [none, some 1, some 1]] (lCons cStrs (lOne (cSl 3 (cAgg (lCons (cInt .i64) (lCons cStrs (lOne cStrs)))))))
  (fun d => d.2.length = 1 ∧ d.1.length ≤ 1099511627 ∧ ∀ x ∈ d.2, x.2.1.length ≤ 1099511627 ∧ x.2.2.length ≤ 1099511627)
  (fun d => .tuple [.sl 1 ((apply1 d.1 (d.2.getD 0 (0, [], []))).1.map .str), .bool (apply1 d.1 (d.2.getD 0 (0, [], []))).2]) (fun _ => [])
theorem ok_CApply : C1OK Try.prog 30 kCApply := C1OK.by (by kernel_rfl) (fun d h => by
  obtain ⟨ls, l⟩ := d
  obtain ⟨h1, h2, h3⟩ := h
  simp only at h1 h2 h3
  match l, h1 with
  | [x], _ =>
    obtain ⟨a, b⟩ := h3 x (by simp)
    exact calls_CApply ls x h2 a b) (fun _ => rfl) (fun _ => rfl)
end Go.Pg
namespace Go.Pg
open Go Go.Proofs Go.RowKit

theorem indexByte_has (l : List UInt8) (c : UInt8) : decide (0 ≤ Lib.indexByte l c) = l.any (· == c) := by
  have h1 := Lib.indexByte_ge l c
  by_cases h : Lib.indexByte l c = -1
  · have h2 := Lib.indexByte_none h
    rw [h, show decide ((0 : Int) ≤ -1) = false from rfl]
    symm
    simp only [List.any_eq_false, beq_iff_eq]
    intro x hx e
    subst e
    obtain ⟨k, hk⟩ := List.getElem?_of_mem hx
    exact h2 k hk
  · obtain ⟨n, hn⟩ : ∃ n : Nat, Lib.indexByte l c = n := ⟨(Lib.indexByte l c).toNat, by omega⟩
    have h2 := (Lib.indexByte_some hn).1
    rw [hn]
    symm
    rw [decide_eq_true (by omega : (0 : Int) ≤ n)]
    simp only [List.any_eq_true, beq_iff_eq]
    exact ⟨c, List.mem_of_getElem? h2, rfl⟩

theorem calls_Contains1 (s : List UInt8) (c : UInt8) : CallsR Try.prog 56 [.str s, .str [c]] [] (.bool (s.any (· == c))) [] := by
  refine callsR_below fun E vals hv => ?_
  obtain ⟨u, v, rfl, h1, h2⟩ := hv.two
  cases h1 with
  | str S =>
    generalize hx : AV.str [c] = x at h2
    cases h2 with
    | str S2 =>
      have e : S2 = ⟨#[c]⟩ := by
        rw [← bytesEta S2]
        have := (AV.str.inj hx).symm
        rw [this]
      subst e
      refine (Try.strings_Contains_one S c E.W).mono fun e W' ⟨h1, h2⟩ => ?_
      subst h2
      refine ⟨⟨_, h1, fun E' => ?_⟩, Below.refl _ _⟩
      rw [indexByte_has]
      exact .bool _
    | _ => cases hx

theorem calls_Repeat1 (x : UInt8) (n : Int) (h0 : 0 ≤ n) (h1 : n ≤ 140737488355328) : CallsR Try.prog 76 [.str [x], .int .i64 n] [] (.str (List.replicate n.toNat x)) [] := by
  refine callsR_below fun E vals hv => ?_
  obtain ⟨u, v, rfl, h2, h3⟩ := hv.two
  obtain ⟨k, rfl⟩ : ∃ k : Nat, n = k := ⟨n.toNat, by omega⟩
  cases h3 with
  | int =>
    generalize hx : AV.str [x] = y at h2
    cases h2 with
    | str S =>
      have e : S = ⟨#[x]⟩ := by
        rw [← bytesEta S]
        have := (AV.str.inj hx).symm
        rw [this]
      subst e
      have hs : (⟨#[x]⟩ : ByteArray).size = 1 := rfl
      refine (Try.strings_Repeat ⟨#[x]⟩ k E.W (by omega) (by rw [hs]; omega)).mono fun e W' ⟨h4, h5⟩ => ?_
      refine ⟨⟨_, h4, fun E' => ?_⟩, h5⟩
      have hr : Lib.repeatL [x] k = List.replicate k x := by
        have := Lib.repeatL_replicate x 1 k
        simpa using this
      rw [show (⟨#[x]⟩ : ByteArray).data.toList = [x] from rfl, hr, Int.toNat_natCast]
      have := VR.str (E := E') ⟨(List.replicate k x).toArray⟩
      simpa using this
    | _ => cases hx

end Go.Pg
namespace Go.Pg
open Go Go.Proofs

def has10 (x : List UInt8) : Bool := x.any (· == 10)
def kContains : C1 := C1.by [.id, .id] (lCons cStr (lOne cStr)) (fun d => d.2 = [10]) (fun d => .bool (has10 d.1)) (fun _ => [])
theorem ok_Contains : C1OK Try.prog 56 kContains := C1OK.by (by kernel_rfl) (fun d h => by
  obtain ⟨a, b⟩ := d
  simp only at h
  subst h
  exact calls_Contains1 a 10) (fun _ => rfl) (fun _ => rfl)
def kRepeat : C1 := C1.by [.id, .id] (lCons cStr (lOne (cInt .i64))) (fun d => d.1 = [32] ∧ 0 ≤ d.2 ∧ d.2 ≤ 140737488355328) (fun d => .str (List.replicate d.2.toNat 32)) (fun _ => [])
theorem ok_Repeat : C1OK Try.prog 76 kRepeat := C1OK.by (by kernel_rfl) (fun d h => by
  obtain ⟨a, b⟩ := d
  simp only at h
  obtain ⟨rfl, h1, h2⟩ := h
  exact calls_Repeat1 32 b h1 h2) (fun _ => rfl) (fun _ => rfl)

def kHPlace : C1 := C1.by [.id, .id] (lCons (cInt .i64) (lOne (cInt .i64))) (fun d => 0 < d.2 ∧ d.2 ≤ 9223372036854775807 ∧ -9223372036854775808 ≤ d.1 ∧ d.1 ≤ 9223372036854775807) (fun d => .int .i64 (d.1 % d.2)) (fun _ => [])
def kSpaces : C1 := C1.by [.id] (lOne (cInt .i64)) (fun n => n ≤ 1048576) (fun n => .str (List.replicate n.toNat 32)) (fun _ => [])
end Go.Pg
namespace Go.Pg
open Go Go.Proofs Go.RowKit

theorem calls_RepeatG (s : List UInt8) (n : Int) (h0 : 0 ≤ n) (h1 : n ≤ 140737488355328) (h2 : s.length * n.toNat ≤ 140737488355328) : CallsR Try.prog 76 [.str s, .int .i64 n] [] (.str (Lib.repeatL s n.toNat)) [] := by
  refine callsR_below fun E vals hv => ?_
  obtain ⟨u, v, rfl, h3, h4⟩ := hv.two
  obtain ⟨k, rfl⟩ : ∃ k : Nat, n = k := ⟨n.toNat, by omega⟩
  cases h4 with
  | int =>
    generalize hx : AV.str s = y at h3
    cases h3 with
    | str S =>
      have hs := AV.str.inj hx
      subst hs
      rw [Int.toNat_natCast] at h2
      have h2' : S.size * k ≤ 140737488355328 := by
        have : S.size = S.data.toList.length := by rw [Array.length_toList]; rfl
        rw [this]; exact h2
      rw [Int.toNat_natCast]
      refine (Try.strings_Repeat S k E.W (by omega) h2').mono fun e W' ⟨h5, h6⟩ => ?_
      refine ⟨⟨_, h5, fun E' => ?_⟩, h6⟩
      have := VR.str (E := E') ⟨(Lib.repeatL S.data.toList k).toArray⟩
      simpa using this
    | _ => cases hx
def kRepeatG : C1 := C1.by [.id, .id] (lCons cStr (lOne (cInt .i64))) (fun d => 0 ≤ d.2 ∧ d.2 ≤ 140737488355328 ∧ d.1.length * d.2.toNat ≤ 140737488355328) (fun d => .str (Lib.repeatL d.1 d.2.toNat)) (fun _ => [])
theorem ok_RepeatG : C1OK Try.prog 76 kRepeatG := C1OK.by (by kernel_rfl) (fun d h => calls_RepeatG d.1 d.2 h.1 h.2.1 h.2.2) (fun _ => rfl) (fun _ => rfl)

def wide (s : List UInt8) (n : Int) : List UInt8 := s ++ List.replicate (n - s.length).toNat 32
theorem wide_length (s : List UInt8) (n : Int) : (wide s n).length = max s.length n.toNat := by
  unfold wide
  rw [List.length_append, List.length_replicate]; omega
theorem calls_wide (s : List UInt8) (n : Int) (hs : s.length ≤ 1099511627776) (hn : n ≤ 1099511627776) (h0 : -9223372036854775808 ≤ n - s.length) : CallsR Try.prog 75 [.str s, .int .i64 n] [] (.str (wide s n)) [] := by
  have w1 : IntKind.i64.wrap (n - (s.length : Int)) = n - s.length := wrap64 (by omega) (by omega)
  refine callsR_of (mrg := true) (dyn := []) (CtrOK.cons ok_Repeat (CtrOK.nil _)) mixed Try.func75 rfl (by simp [Try.ntmps75]) (by kernel_rfl) ?_
  rw [show Try.f75.results.toList = [.tmp 4] from by kernel_rfl]
  simp (maxSteps := 4000000) only [↓wpA_H, ↓wpH_ret, ↓wpH_seq, ↓wpH_region, bselH_false, runH_nil, runH_cons, gw, gselH_plain, ↓chk, justK, ↓oneK, ↓pureK, envOf, ↓thenA_normal, ↓stepEv, opnd, Pg.look, binK, intOp, strOp, Bool.false_eq_true, implies_true, true_and, and_true, valV, heapV, footV, binV, intV, strV, ofV, ofLeaf, retA, resK, tupA, subA, subQ, ptrsE, frzO, subF, subG, pickOf, frzE, frzC, frz0, frzH, Pg.freeze, List.foldl_nil, subOs, subEv, subV_succ, subM, ↓callT, callC, callV, callH, normArgs, normA, resL, res8_eq, res_succ, resM, shiftR, shift1, foldInts, Option.getD_some, reduceCtorEq, Nat.reduceEqDiff, List.append_nil, List.length_nil, List.map_cons, List.map_nil, Nat.zero_add, ite_true, ite_false, Option.some.injEq, AV.int.injEq, and_self, exists_eq_left', pickOK_nil, cInt_dec, cStr_dec, lOne_dec, lCons_dec, dec2_some, List.contains_nil, List.range'_zero, C1by_ns, C1by_pre, C1by_r, C1by_H, optP_some, optV_some, optH_some, tk9, kRepeat, w1]
  refine ⟨by omega, by rw [List.length_replicate]; omega, ?_⟩
  unfold wide
  rw [show (max (n - (s.length : Int)) 0).toNat = (n - (s.length : Int)).toNat by omega]
def kWide : C1 := C1.by [.id, .id] (lCons cStr (lOne (cInt .i64))) (fun d => d.1.length ≤ 1099511627776 ∧ d.2 ≤ 1099511627776 ∧ -9223372036854775808 ≤ d.2 - d.1.length) (fun d => .str (wide d.1 d.2)) (fun _ => [])
theorem ok_wide : C1OK Try.prog 75 kWide := C1OK.by (by kernel_rfl) (fun d h => calls_wide d.1 d.2 h.1 h.2.1 h.2.2) (fun _ => rfl) (fun _ => rfl)

abbrev Reg := Int × Ls
def aReg (r : Reg) : AV := .agg [.int .i64 r.1, .sl 1 (r.2.map .str)]
abbrev lReg : CdL Reg := lCons (cInt .i64) (lOne cStrs)
abbrev cReg : Cd Reg := cAgg lReg

theorem calls_may1 (s : List UInt8) : CallsR Try.prog 55 [.str s] [] (.bool (has10 s)) [] := by
  refine callsR_of (mrg := true) (dyn := []) (CtrOK.cons ok_Contains (CtrOK.nil _)) mixed Try.func55 rfl (by simp [Try.ntmps55]) (by kernel_rfl) ?_
  rw [show Try.f55.results.toList = [.tmp 2] from by kernel_rfl]
  simp (maxSteps := 4000000) only [↓wpA_H, ↓wpH_ret, ↓wpH_seq, ↓wpH_region, bselH_false, runH_nil, runH_cons, gw, gselH_plain, ↓chk, justK, ↓oneK, ↓pureK, envOf, ↓thenA_normal, ↓stepEv, opnd, Pg.look, Bool.false_eq_true, implies_true, valV, heapV, footV, ofV, ofLeaf, retA, resK, tupA, subA, subQ, ptrsE, frzO, subF, subG, pickOf, frzE, frzC, frz0, frzH, Pg.freeze, List.foldl_nil, subOs, subEv, subV_succ, subM, ↓callT, callC, callV, callH, normArgs, normA, resL, res8_eq, res_succ, resM, shiftR, shift1, reduceCtorEq, Nat.reduceEqDiff, List.append_nil, List.length_nil, List.map_cons, List.map_nil, ite_true, ite_false, and_self, pickOK_nil, cStr_dec, lOne_dec, lCons_dec, dec2_some, List.contains_nil, List.range'_zero, C1by_ns, C1by_pre, C1by_r, C1by_H, optP_some, optV_some, optH_some, kContains]
def kMay1 : C1 := C1.by [.id] (lOne cStr) (fun _ => True) (fun s => .bool (has10 s)) (fun _ => [])
theorem ok_may1 : C1OK Try.prog 55 kMay1 := C1OK.by (by kernel_rfl) (fun d _ => calls_may1 d) (fun _ => rfl) (fun _ => rfl)

def idx10 (ls : Ls) : Int := if ls.any has10 = true then ls.findIdx has10 else -1
set_option maxRecDepth 20000 in
set_option maxHeartbeats 4000000 in
theorem calls_Index10 (ls : Ls) (hl : ls.length ≤ 140737488355328) : CallsR Try.prog 72 [.sl 1 (ls.map .str), .fn 55 []] [] (.int .i64 (idx10 ls)) [] := by
  refine callsR_of (mrg := true) (dyn := []) (CtrOK.cons ok_may1 (CtrOK.nil _)) mixed Try.func72 rfl (by simp [Try.ntmps72]) (by kernel_rfl) ?_
  rw [show Try.f72.results.toList = [.tmp 4] from by kernel_rfl]
  simp (maxSteps := 4000000) only [↓wpA_H, ↓wpH_seq, ↓wpH_block, ↓wpH_loop, ↓wpH_region, bselH_false, runH_nil, runH_cons, gw, gselH_plain, ↓chk, justK, ↓oneK, ↓pureK, envOf, ↓thenA_normal, ↓stepEv, opnd, Pg.look, Bool.false_eq_true, implies_true, true_and, and_true, valV, heapV, footV, ofV, ofLeaf, slen, Option.getD_some, reduceCtorEq, Nat.reduceEqDiff, List.length_nil, Nat.zero_add, ite_true, ite_false, Option.some.injEq, AV.int.injEq, and_self, exists_eq_left', List.length_map, List.contains_nil, tk22, kMay1]
  refine loopH_intro (α := Nat) (fun i => ([(0, .sl 1 (ls.map .str)), (1, .fn 55 []), (7, .int .i64 ls.length), (8, .int .i64 i)], [])) (fun i => i ≤ ls.length ∧ (ls.take i).any has10 = false) (fun i => ls.length - i) 0 (by simp) ?_ ?_
  · simp (maxSteps := 4000000) only [Pg.look, subA, subQ, ptrsE, frzO, subF, subG, pickOf, frzE, frzC, frzL, frz0, frzH, Pg.freeze, List.foldl_nil, subOs, subEv, subV_succ, subM, subL, reduceCtorEq, Nat.reduceEqDiff, List.append_nil, ite_true, ite_false, and_self, pickOK_nil, Int.cast_ofNat_Int]
  intro i hi
  obtain ⟨hi1, hi2⟩ := hi
  by_cases hlt : i < ls.length
  · have hct : decide ((i : Int) < (ls.length : Int)) = true := decide_eq_true (by omega)
    cases hb : has10 (ls.getD i []) with
    | true =>
      have e : idx10 ls = i := by
        have he : ls[i]? = some (ls.getD i []) := by rw [List.getD_eq_getElem?_getD, List.getElem?_eq_getElem hlt]; rfl
        have hany : ls.any has10 = true := List.any_eq_true.2 ⟨ls.getD i [], List.mem_of_getElem? he, hb⟩
        unfold idx10
        rw [if_pos hany]
        have : ls.findIdx has10 = i := by
          rw [List.findIdx_eq hlt]
          refine ⟨by rw [List.getD_eq_getElem?_getD, List.getElem?_eq_getElem hlt] at hb; simpa using hb, fun j hj => ?_⟩
          rw [List.any_eq_false] at hi2
          have := hi2 ls[j] (by rw [List.mem_take_iff_getElem]; exact ⟨j, by omega, rfl⟩)
          simpa using this
        rw [this]
      rw [e]
      simp (maxSteps := 4000000) only [↓wpA_H, ↓wpH_skip, ↓wpH_ret, ↓wpH_seq, ↓wpH_cond, ↓wpH_block, ↓wpH_region, ↓iselH_true, bselH_false, runH_nil, runH_cons, gw, gselH_plain, cselH_bool, ↓chk, justK, noW, ↓oneK, ↓pureK, ↓heapK, ↓thenA_normal, ↓thenA_ret, ↓blockA_ret, ↓stepEv, opnd, Pg.look, binK, intOp, Bool.false_eq_true, implies_true, true_and, and_true, valV, heapV, footV, binV, intV, retA, resK, tupA, subA, subQ, ptrsE, frzO, subF, subG, pickOf, frzE, frzC, frz0, frzH, Pg.freeze, List.foldl_nil, subOs, subEv, subV_succ, subM, ldCells, ↓callT, callC, callV, callH, normArgs, normA, resL, res8_eq, res_succ, resM, shiftR, shift1, AV.cells, TK.cells, List.getElem?_cons_zero, Option.getD_some, reduceCtorEq, Nat.reduceEqDiff, List.append_nil, List.length_nil, List.map_cons, List.map_nil, ite_true, ite_false, Option.some.injEq, and_self, exists_eq_left', pickOK_nil, List.length_map, cStr_dec, lOne_dec, List.contains_nil, List.range'_zero, C1by_ns, C1by_pre, C1by_r, C1by_H, optP_some, optV_some, optH_some, getD_str, Int.toNat_natCast, tk9, dz9, tk22, kMay1, hct, hb]
      exact ⟨by omega, hlt⟩
    | false =>
      simp (maxSteps := 4000000) only [↓wpA_H, ↓wpH_skip, ↓wpH_seq, ↓wpH_cond, ↓wpH_block, ↓wpH_region, ↓iselH_true, ↓iselH_false, bselH_false, runH_nil, runH_cons, gw, gselH_plain, cselH_bool, ↓chk, justK, noW, ↓oneK, ↓pureK, ↓heapK, ↓thenA_normal, ↓blockA_normal, ↓stepEv, opnd, Pg.look, binK, intOp, Bool.false_eq_true, implies_true, true_and, and_true, valV, heapV, footV, binV, intV, ofV, ofLeaf, subA, subQ, ptrsE, frzO, subF, subG, pickOf, frzE, frzC, frzL, frz0, frzH, Pg.freeze, List.foldl_nil, subOs, subEv, subV_succ, subM, subL, ldCells, ↓callT, callC, callV, callH, normArgs, normA, resL, res8_eq, res_succ, resM, shiftR, shift1, AV.cells, TK.cells, List.getElem?_cons_zero, Option.getD_some, reduceCtorEq, Nat.reduceEqDiff, List.append_nil, List.length_nil, List.map_cons, List.map_nil, ite_true, ite_false, Option.some.injEq, and_self, exists_eq_left', pickOK_nil, List.length_map, cStr_dec, lOne_dec, List.contains_nil, List.range'_zero, C1by_ns, C1by_pre, C1by_r, C1by_H, optP_some, optV_some, optH_some, getD_str, Int.toNat_natCast, tk9, dz9, tk22, kMay1, hct, hb]
      refine ⟨⟨by omega, hlt⟩, i + 1, ⟨by omega, ?_⟩, by omega, by rw [wrap64 (by omega) (by omega)]; rfl⟩
      rw [take_succ_getD ls i [] hlt, List.any_append, hi2]
      rw [show List.any [ls.getD i []] has10 = has10 (ls.getD i []) by rw [List.any_cons, List.any_nil, Bool.or_false], hb]
      rfl
  · have hcf : decide ((i : Int) < (ls.length : Int)) = false := decide_eq_false (by omega)
    have e : idx10 ls = -1 := by
      have : i = ls.length := by omega
      subst this
      rw [List.take_length] at hi2
      unfold idx10
      rw [hi2]; rfl
    rw [e]
    simp (maxSteps := 4000000) only [↓wpA_H, ↓wpH_ret, ↓wpH_exit, ↓wpH_seq, ↓wpH_cond, ↓wpH_region, ↓iselH_false, bselH_false, runH_nil, runH_cons, gw, gselH_plain, cselH_bool, ↓chk, justK, ↓oneK, ↓pureK, ↓thenA_normal, ↓thenA_exit, ↓blockA_exit, ↓stepEv, opnd, Pg.look, binK, intOp, Bool.false_eq_true, implies_true, valV, heapV, footV, binV, intV, ofV, ofLeaf, retA, resK, tupA, subA, subQ, ptrsE, frzO, subF, subG, pickOf, frzE, frzC, frz0, frzH, Pg.freeze, List.foldl_nil, subOs, subEv, subV_succ, subM, reduceCtorEq, Nat.reduceEqDiff, List.append_nil, List.length_nil, ite_true, ite_false, and_self, pickOK_nil, List.contains_nil, kMay1, hcf]
def kIndex10 : C1 := C1.by [.sl 1 [], .id] (lCons cStrs (lOne (cFn 55 lNil))) (fun d => d.1.length ≤ 140737488355328) (fun d => .int .i64 (idx10 d.1)) (fun _ => [])
theorem ok_Index10 : C1OK Try.prog 72 kIndex10 := C1OK.by (by kernel_rfl) (fun d h => calls_Index10 d.1 h) (fun _ => rfl) (fun _ => rfl)

theorem calls_Contains10 (ls : Ls) (hl : ls.length ≤ 140737488355328) : CallsR Try.prog 54 [.sl 1 (ls.map .str), .fn 55 []] [] (.bool (ls.any has10)) [] := by
  refine callsR_of (mrg := true) (dyn := []) (CtrOK.cons ok_Index10 (CtrOK.nil _)) mixed Try.func54 rfl (by simp [Try.ntmps54]) (by kernel_rfl) ?_
  rw [show Try.f54.results.toList = [.tmp 4] from by kernel_rfl]
  simp (maxSteps := 4000000) only [↓wpA_H, ↓wpH_ret, ↓wpH_seq, ↓wpH_region, bselH_false, runH_nil, runH_cons, gw, gselH_plain, ↓chk, justK, ↓oneK, ↓pureK, envOf, ↓thenA_normal, ↓stepEv, opnd, Pg.look, binK, intOp, Bool.false_eq_true, implies_true, true_and, and_true, valV, heapV, footV, binV, intV, ofV, ofLeaf, retA, resK, tupA, subA, subQ, ptrsE, frzO, subF, subG, pickOf, frzE, frzC, frz0, frzH, Pg.freeze, List.foldl_nil, subOs, subEv, subV_succ, subM, ↓callT, callC, callV, callH, normArgs, normA, normC, resL, res8_eq, res_succ, resM, shiftR, shift1, reduceCtorEq, Nat.reduceEqDiff, List.append_nil, List.length_nil, List.map_cons, List.map_nil, Nat.zero_add, ite_true, ite_false, and_self, pickOK_nil, cSl_dec, cFn_dec, lNil_dec, lOne_dec, lCons_dec, dec2_some, List.contains_nil, List.range'_zero, decL_str, C1by_ns, C1by_pre, C1by_r, C1by_H, optP_some, optV_some, optH_some, kIndex10]
  refine ⟨hl, ?_⟩
  unfold idx10
  cases ls.any has10
  · rfl
  · simp
def kContains10 : C1 := C1.by [.sl 1 [], .id] (lCons cStrs (lOne (cFn 55 lNil))) (fun d => d.1.length ≤ 140737488355328) (fun d => .bool (d.1.any has10)) (fun _ => [])
theorem ok_Contains10 : C1OK Try.prog 54 kContains10 := C1OK.by (by kernel_rfl) (fun d h => calls_Contains10 d.1 h) (fun _ => rfl) (fun _ => rfl)

def kCSize : C1 := C1.by [.sl 1 []] (lOne cStrs) (fun d => few d) (fun d => .int .i64 (size d)) (fun _ => [])
theorem ok_CSize : C1OK Try.prog 53 kCSize := C1OK.by (by kernel_rfl) (fun d h => calls_CSize d h) (fun _ => rfl) (fun _ => rfl)

/-- May a register be put so often? -/
def mayR (r : Reg) (n : Int) : Bool := decide (1 ≤ n) && decide (n ≤ 9999) && decide (0 < r.2.length) && decide (size r.2 ≤ 4096 / n) && !(r.2.any has10)

set_option maxRecDepth 20000 in
set_option maxHeartbeats 4000000 in
theorem calls_pmay (r : Reg) (n : Int) (hf : few r.2) : CallsR Try.prog 40 [aReg r, .int .i64 n] [] (.bool (mayR r n)) [] := by
  obtain ⟨k, ls⟩ := r
  refine callsR_of (mrg := true) (dyn := []) (CtrOK.cons ok_CSize (CtrOK.cons ok_Contains10 (CtrOK.nil _))) mixed Try.func40 rfl (by simp [Try.ntmps40]) (by kernel_rfl) ?_
  rw [show Try.f40.results.toList = [.tmp 4] from by kernel_rfl]
  simp only at hf
  have hl := hf.1
  by_cases hn : 1 ≤ n
  · have hq : Int.tdiv 4096 n = 4096 / n := Int.tdiv_eq_ediv_of_nonneg (by decide)
    have hq1 : 0 ≤ 4096 / n := Int.ediv_nonneg (by decide) (by omega)
    have hq2 : 4096 / n ≤ 4096 := Int.ediv_le_self _ (by decide)
    have w1 : IntKind.i64.wrap (4096 / n) = 4096 / n := wrap64 (by omega) (by omega)
    have d1 : decide (n < 1) = false := decide_eq_false (by omega)
    simp (maxSteps := 4000000) only [↓wpA_H, ↓wpH_skip, ↓wpH_ret, ↓wpH_seq, ↓wpH_cond, ↓wpH_region, iselH_if, bselH_false, runH_nil, runH_cons, gw, gselH_plain, gselH_if, kselH_1, cselH_bool, gkind, ↓chk, justK, noW, ↓oneK, ↓pureK, ↓heapK, envOf, ↓thenA_normal, ↓thenA_ret, ↓stepEv, opnd, Pg.look, binK, intOp, dstOf, Bool.not_false, Bool.false_eq_true, false_implies, implies_true, imp_self, true_and, and_true, pickC, pickV, unc, gof, mux, mergeK, condsL, valV, heapV, footV, binV, intV, mergeable, look_stripE, ofV, ofLeaf, sameK, retA, resK, tupA, subA, subQ, ptrsE, frzO, subF, subG, pickOf, frzE, frzC, frz0, frzH, Pg.freeze, List.foldl_nil, subOs, subEv, subV_succ, subM, slen, ldCells, objAt, ↓callT, callC, callV, callH, normArgs, normA, normC, resL, res8_eq, res_succ, resM, shiftR, shift1, AV.cells, TK.cells, AV.definite, Op.operands, Call.operands, Array.toList_append, List.getElem?_toArray, List.getElem?_cons_succ, List.getElem?_cons_zero, Option.bind_some, Option.getD_some, reduceCtorEq, Nat.reduceEqDiff, Nat.reduceAdd, List.nil_append, List.append_nil, List.cons_append, List.length_cons, List.length_nil, List.map_cons, List.map_nil, Nat.zero_add, ite_true, ite_false, Option.some.injEq, AV.int.injEq, Prod.mk.injEq, Bool.if_true_left, Bool.decide_eq_true, decide_eq_true_eq, decide_eq_false_iff_not, Int.not_lt, ne_eq, Bool.and_self, and_self, Bool.not_eq_true', exists_eq_left', pickOK_nil, List.length_map, List.toList_toArray, cSl_dec, cFn_dec, lNil_dec, lOne_dec, lCons_dec, dec2_some, List.contains_nil, List.range'_zero, decL_str, C1by_ns, C1by_pre, C1by_r, C1by_H, optP_some, optV_some, optH_some, List.getD_cons_zero, Nat.zero_lt_succ, tk22, tk32, dz32, kCSize, kContains10, aReg, hq, w1, d1]
    refine ⟨fun h => ⟨h, hf⟩, fun h => ⟨h, by omega⟩, fun h => ?_, fun h => ⟨by omega, ?_⟩⟩
    · simp only [Bool.or_eq_true, decide_eq_true_eq, beq_iff_eq] at h
      unfold mayR
      symm
      simp only [Bool.and_eq_false_iff, decide_eq_false_iff_not]
      rcases h with (h | h) | h
      · exact .inl (.inl (.inl (.inr (by omega))))
      · exact .inl (.inl (.inr (by show ¬ 0 < ls.length; omega)))
      · exact .inl (.inr (by show ¬ size ls ≤ _; omega))
    · simp only [Bool.or_eq_false_iff, decide_eq_false_iff_not, beq_eq_false_iff_ne] at h
      unfold mayR
      simp only
      rw [decide_eq_true hn, decide_eq_true (show n ≤ 9999 by omega), decide_eq_true (show 0 < ls.length by omega), decide_eq_true (show size ls ≤ 4096 / n by omega)]
      rfl
  · have e : mayR (k, ls) n = false := by
      unfold mayR
      rw [decide_eq_false hn]; rfl
    rw [e]
    have d1 : decide (n < 1) = true := decide_eq_true (by omega)
    simp (maxSteps := 4000000) only [↓wpA_H, ↓wpH_ret, ↓wpH_seq, ↓wpH_cond, ↓wpH_region, ↓iselH_true, bselH_false, runH_nil, runH_cons, gw, gselH_plain, gselH_if, kselH_1, cselH_bool, gkind, ↓chk, justK, noW, ↓oneK, ↓pureK, ↓heapK, envOf, ↓thenA_normal, ↓thenA_ret, ↓stepEv, opnd, Pg.look, binK, intOp, dstOf, Bool.not_true, Bool.false_eq_true, Bool.true_eq_false, false_implies, implies_true, imp_self, true_and, and_true, pickC, pickV, unc, gof, mux, mergeK, condsL, valV, heapV, footV, binV, intV, mergeable, look_stripE, ofV, ofLeaf, sameK, retA, resK, tupA, subA, subQ, ptrsE, frzO, subF, subG, pickOf, frzE, frzC, frz0, frzH, Pg.freeze, List.foldl_nil, subOs, subEv, subV_succ, subM, slen, ldCells, objAt, ↓callT, callC, callV, normArgs, normA, normC, resL, res8_eq, res_succ, resM, shiftR, shift1, AV.cells, TK.cells, AV.definite, Op.operands, Call.operands, Array.toList_append, List.getElem?_toArray, List.getElem?_cons_succ, List.getElem?_cons_zero, Option.bind_some, Option.getD_some, reduceCtorEq, Nat.reduceEqDiff, Nat.reduceAdd, List.nil_append, List.append_nil, List.cons_append, List.length_cons, List.length_nil, List.map_cons, List.map_nil, Nat.zero_add, ite_true, ite_false, Option.some.injEq, AV.int.injEq, ne_eq, Bool.and_self, and_self, exists_eq_left', pickOK_nil, List.length_map, List.toList_toArray, cSl_dec, lOne_dec, lCons_dec, List.contains_nil, List.range'_zero, decL_str, C1by_ns, C1by_pre, C1by_r, C1by_H, optP_some, optV_some, optH_some, List.getD_cons_zero, Nat.zero_lt_succ, tk22, tk32, dz32, kCSize, kContains10, aReg, d1]
end Go.Pg
