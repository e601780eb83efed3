/- Sorting of bytes: the pivot; is it sorted already? Bytes are sorted; the marks' names. -/
import Derived.Test.YtohpkjpipihdoaaPgFx4
import Derived.Test.YtohpkjpipihdoaaPgFx2
import Derived.Test.YtohpkjpipihdoaaPgShf
import Derived.Test.YtohpkjpipihdoaaPgLib
namespace Go.Pg
open Go Go.Proofs

set_option maxRecDepth 20000 in
set_option maxHeartbeats 4000000 in
theorem calls_ord2 (l : List UInt8) (a b s : Nat) (ha : a < l.length) (hb : b < l.length) (hl : l.length ≤ 1000) (hs : s ≤ 1000) :
    CallsR Try.prog 86 [.own 0 1 l.length, .int .i64 a, .int .i64 b, .ptr 1 1 1 0 0] [.arr 5 1 (ofBytes l), .arr 3 1 [.int .i64 s]]
      (.tuple [.int .i64 (ord2 l a b s).1, .int .i64 (ord2 l a b s).2.1]) [.arr 5 1 (ofBytes l), .arr 3 1 [.int .i64 (ord2 l a b s).2.2]] := by
  refine callsR_of (mrg := true) (dyn := []) (CtrOK.cons ok_Less (CtrOK.nil _)) mixed Try.func86 rfl (by simp [Try.ntmps86]) (by kernel_rfl) ?_
  rw [show Try.f86.results.toList = [.tmp 8, .tmp 9] from by kernel_rfl]
  have ho := ord2_eq l a b s
  have w : IntKind.i64.wrap ((s : Int) + 1) = ((s + 1 : Nat) : Int) := by rw [wrap64 (by omega) (by omega)]; omega
  cases hL : ltB (l.getD b 0) (l.getD a 0) with
  | true =>
    rw [hL, if_pos rfl] at ho
    rw [ho]
    simp (maxSteps := 4000000) only [↓wpA_H, ↓wpH_ret, ↓wpH_seq, ↓wpH_cond, ↓wpH_region, ↓iselH_true, bselH_false, runH_nil, runH_cons, gw, gselH_plain, cselH_bool, ↓chk, justK, noW, ↓oneK, ↓pureK, ↓heapK, envOf, ↓thenA_normal, ↓thenA_ret, ↓stepEv, opnd, Pg.look, binK, intOp, Bool.false_eq_true, implies_true, true_and, and_true, valV, heapV, footV, binV, intV, alives, aliveO, nxtQ, hdS, pairsA, frzA, closeQ_nil, closeQ_succ, diagQ_zero, diagQ_succ, Nat.reduceAdd, ofV, ofLeaf, retA, resK, tupA, subA, subQ, ptrsE, pairsO, frzO, subF, subG, pickOf, assocN, pairsE, pairsC, pairsL, pairs0, frzE, frzC, frzL, frz0, frzH, Pg.freeze, List.foldl_nil, subOs, subO, subEv, subV_succ, subM, subL, ldCells, objAt, ↓callT, callC, callV, callH, normArgs, normA, resL, res8_eq, res_succ, resM, shiftR, shift1, AV.cells, TK.cells, AV.leaf, AV.leafy, AV.pureLeaf, AV.pureB, putCells, List.getElem?_cons_succ, List.getElem?_cons_zero, Option.getD_some, reduceCtorEq, Nat.reduceEqDiff, Nat.reduceAdd, Nat.reduceLT, List.nil_append, List.append_nil, List.length_cons, List.length_nil, List.map_cons, List.map_nil, List.set_cons_zero, List.set_cons_succ, Nat.zero_add, ite_true, ite_false, Option.some.injEq, Option.isSome_none, List.all_cons, List.all_nil, Bool.and_self, and_self, exists_eq_left', length_ofBytes, getD_ofBytes, cByte_dec, lOne_dec, lCons_dec, dec2_some, pureB_bytes, List.contains_nil, List.range'_zero, C1by_ns, C1by_pre, C1by_r, C1by_H, optP_some, optV_some, optH_some, Int.toNat_natCast, List.getD_cons_zero, Nat.le_refl, Nat.zero_lt_succ, C1by_it, regH_none, isNext, nextF, nextG, selC_true, selC_false, pureC, ↓msel, muC, ↓callP, C1by_mu, tk3, dz3, tk5, dz5, tk32, kLess, hL, w]
    repeat (first | refine And.intro ⟨by omega, by omega⟩ ?_ | refine And.intro (by omega) ?_)
    refine ⟨by decide, subX_eq rfl (pureB_bytes _), subX_one ?_⟩
    simp (maxSteps := 4000000) only [subV_succ, subM, subL, AV.cells, and_self]
  | false =>
    rw [hL, if_neg (by simp)] at ho
    rw [ho]
    simp (maxSteps := 4000000) only [↓wpA_H, ↓wpH_skip, ↓wpH_ret, ↓wpH_seq, ↓wpH_cond, ↓wpH_region, ↓iselH_false, bselH_false, runH_nil, runH_cons, gw, gselH_plain, cselH_bool, ↓chk, justK, noW, ↓oneK, ↓pureK, ↓heapK, envOf, ↓thenA_normal, ↓stepEv, opnd, Pg.look, Bool.false_eq_true, implies_true, true_and, and_true, valV, heapV, footV, alives, aliveO, nxtQ, hdS, pairsA, frzA, closeQ_nil, closeQ_succ, diagQ_zero, diagQ_succ, Nat.reduceAdd, ofV, ofLeaf, retA, resK, tupA, subA, subQ, ptrsE, pairsO, frzO, subF, subG, pickOf, assocN, pairsE, pairsC, pairsL, pairs0, frzE, frzC, frzL, frz0, frzH, Pg.freeze, List.foldl_nil, subOs, subO, subEv, subV_succ, subM, subL, ldCells, objAt, ↓callT, callC, callV, callH, normArgs, normA, resL, res8_eq, res_succ, resM, shiftR, shift1, AV.cells, TK.cells, AV.pureLeaf, AV.pureB, List.getElem?_cons_succ, List.getElem?_cons_zero, Option.getD_some, reduceCtorEq, Nat.reduceEqDiff, Nat.reduceAdd, Nat.reduceLT, List.nil_append, List.append_nil, List.length_cons, List.length_nil, List.map_cons, List.map_nil, Nat.zero_add, ite_true, ite_false, Option.some.injEq, Option.isSome_none, List.all_cons, List.all_nil, Bool.and_self, and_self, exists_eq_left', length_ofBytes, getD_ofBytes, cByte_dec, lOne_dec, lCons_dec, dec2_some, pureB_bytes, List.contains_nil, List.range'_zero, C1by_ns, C1by_pre, C1by_r, C1by_H, optP_some, optV_some, optH_some, Int.toNat_natCast, Nat.zero_lt_succ, C1by_it, regH_none, isNext, nextF, nextG, selC_true, selC_false, pureC, ↓msel, muC, ↓callP, C1by_mu, tk5, dz5, tk32, kLess, hL]
    repeat (first | refine And.intro ⟨by omega, by omega⟩ ?_ | refine And.intro (by omega) ?_)
    refine ⟨by decide, subX_eq rfl (pureB_bytes _), subX_one ?_⟩
    simp (maxSteps := 4000000) only [subV_succ, subM, subL, AV.cells, and_self]

abbrev hAC : HL (List UInt8 × Int × Int × Int × Unit) := hCons hBys (hCons (hP .id (cInt .i64)) (hCons (hP .id (cInt .i64)) (hCons (hBox 3 1 (hP .id (cInt .i64))) hNil)))
def kOrd2 : C1 := C1.mby hAC (fun d => 0 ≤ d.2.1 ∧ d.2.1 < d.1.length ∧ 0 ≤ d.2.2.1 ∧ d.2.2.1 < d.1.length ∧ d.1.length ≤ 1000 ∧ 0 ≤ d.2.2.2.1 ∧ d.2.2.2.1 ≤ 1000)
  (fun d => .tuple [.int .i64 (ord2 d.1 d.2.1.toNat d.2.2.1.toNat d.2.2.2.1.toNat).1, .int .i64 (ord2 d.1 d.2.1.toNat d.2.2.1.toNat d.2.2.2.1.toNat).2.1])
  (fun d => [.arr 5 1 (ofBytes d.1), .arr 3 1 [.int .i64 (ord2 d.1 d.2.1.toNat d.2.2.1.toNat d.2.2.2.1.toNat).2.2]])
theorem ok_ord2 : C1OK Try.prog 86 kOrd2 := C1OK.mby (by kernel_rfl) (fun d h => by
  obtain ⟨l, a, b, s, u⟩ := d
  obtain ⟨h1, h2, h3, h4, h5, h6, h7⟩ := h
  have h1 : 0 ≤ a := h1
  have h2 : a < l.length := h2
  have h3 : 0 ≤ b := h3
  have h4 : b < l.length := h4
  have h5 : l.length ≤ 1000 := h5
  have h6 : 0 ≤ s := h6
  have h7 : s ≤ 1000 := h7
  have := calls_ord2 l a.toNat b.toNat s.toNat (by omega) (by omega) h5 (by omega)
  rw [show ((a.toNat : Nat) : Int) = a by omega, show ((b.toNat : Nat) : Int) = b by omega, show ((s.toNat : Nat) : Int) = s by omega] at this
  exact this) (fun _ _ => Nat.le_refl _)

theorem ord2_mem (l : List UInt8) (a b s : Nat) (P : Nat → Prop) (ha : P a) (hb : P b) : P (ord2 l a b s).1 ∧ P (ord2 l a b s).2.1 ∧ (ord2 l a b s).2.2 ≤ s + 1 := by
  rw [ord2_eq]
  split
  · exact ⟨hb, ha, Nat.le_refl _⟩
  · exact ⟨ha, hb, Nat.le_succ _⟩
theorem med_mem (l : List UInt8) (a b c s : Nat) (P : Nat → Prop) (ha : P a) (hb : P b) (hc : P c) : P (med l a b c s).1 ∧ (med l a b c s).2 ≤ s + 3 := by
  rw [med_eq]
  obtain ⟨a1, b1, s1⟩ := ord2_mem l a b s P ha hb
  obtain ⟨a2, b2, s2⟩ := ord2_mem l (ord2 l a b s).2.1 c (ord2 l a b s).2.2 P b1 hc
  obtain ⟨a3, b3, s3⟩ := ord2_mem l (ord2 l a b s).1 (ord2 l (ord2 l a b s).2.1 c (ord2 l a b s).2.2).1 (ord2 l (ord2 l a b s).2.1 c (ord2 l a b s).2.2).2.2 P a1 a2
  exact ⟨b3, by omega⟩

set_option maxRecDepth 20000 in
set_option maxHeartbeats 4000000 in
theorem calls_med (l : List UInt8) (a b c s : Nat) (ha : a < l.length) (hb : b < l.length) (hc : c < l.length) (hl : l.length ≤ 1000) (hs : s ≤ 100) :
    CallsR Try.prog 84 [.own 0 1 l.length, .int .i64 a, .int .i64 b, .int .i64 c, .ptr 1 1 1 0 0] [.arr 5 1 (ofBytes l), .arr 3 1 [.int .i64 s]]
      (.int .i64 (med l a b c s).1) [.arr 5 1 (ofBytes l), .arr 3 1 [.int .i64 (med l a b c s).2]] := by
  refine callsR_of (mrg := true) (dyn := []) (CtrOK.cons ok_ord2 (CtrOK.nil _)) mixed Try.func84 rfl (by simp [Try.ntmps84]) (by kernel_rfl) ?_
  rw [show Try.f84.results.toList = [.tmp 10] from by kernel_rfl]
  rw [med_eq]
  obtain ⟨a1, b1, s1⟩ := ord2_mem l a b s (fun x => x < l.length) ha hb
  obtain ⟨r1, hr1⟩ : ∃ r, r = ord2 l a b s := ⟨_, rfl⟩
  rw [← hr1] at a1 b1 s1 ⊢
  obtain ⟨a2, b2, s2⟩ := ord2_mem l r1.2.1 c r1.2.2 (fun x => x < l.length) b1 hc
  obtain ⟨r2, hr2⟩ : ∃ r, r = ord2 l r1.2.1 c r1.2.2 := ⟨_, rfl⟩
  rw [← hr2] at a2 b2 s2 ⊢
  obtain ⟨r3, hr3⟩ : ∃ r, r = ord2 l r1.1 r2.1 r2.2.2 := ⟨_, rfl⟩
  rw [← hr3]
  simp (maxSteps := 4000000) only [↓wpA_H, ↓wpH_ret, ↓wpH_seq, ↓wpH_region, bselH_false, runH_nil, runH_cons, gw, gselH_plain, ↓chk, justK, ↓oneK, ↓pureK, envOf, ↓thenA_normal, ↓stepEv, opnd, Pg.look, Bool.not_false, Bool.false_eq_true, implies_true, true_and, and_true, valV, heapV, footV, alives, aliveO, nxtQ, hdS, pairsA, frzA, closeQ_nil, closeQ_succ, diagQ_zero, diagQ_succ, Nat.reduceAdd, ofV, ofLeaf, retA, resK, tupA, subA, subQ, ptrsE, pairsO, frzO, subF, subG, pickOf, assocN, pairsE, pairsC, pairs0, frzE, frzC, frz0, frzH, Pg.freeze, List.foldl_nil, subOs, subO, subEv, subV_succ, subM, ↓callT, normA, res8_eq, res_succ, resM, AV.cells, AV.pureLeaf, AV.pureB, List.getElem?_cons_succ, List.getElem?_cons_zero, Option.getD_some, reduceCtorEq, Nat.reduceEqDiff, Nat.reduceAdd, Nat.reduceLT, Nat.reduceSub, List.nil_append, List.append_nil, List.cons_append, List.length_cons, List.length_nil, List.map_cons, List.map_nil, List.set_cons_zero, List.set_cons_succ, Nat.zero_add, ite_true, ite_false, Option.some.injEq, List.all_cons, List.all_nil, Bool.and_self, and_self, exists_eq_left', cInt_dec, length_ofBytes, decL_byte, pureB_bytes, List.contains_cons, List.contains_nil, Nat.reduceBEq, Bool.or_self, List.range'_zero, Int.toNat_natCast, Nat.sub_self, Nat.zero_lt_succ, regH_none, isNext, nextF, nextG, selC_false, ↓msel, muC, ↓callU, ↓callUV, ↓callUH, ↓callUF, C1mby_mu, runM_eq, mkM_some, hNil_dec, hCons_dec, app3_some, hP_dec, hP1_some, hP2_some, hO1_some, hO2_arr, hOwn_dec, hB1_some, hB2_arr, hBox_dec, pickF, nodupB, somes, fresh, gids, putO, ren, renL, renO, kOrd2, renL_bytes, ← hr1, ← hr2, ← hr3]
  refine ⟨⟨by omega, by omega, by omega, by omega, by omega, by omega, by omega⟩, ⟨by omega, by omega, by omega, by omega, by omega, by omega, by omega⟩, ⟨by omega, by omega, by omega, by omega, by omega, by omega, by omega⟩, by decide, subX_eq rfl (pureB_bytes _), subX_one ?_⟩
  simp (maxSteps := 4000000) only [subV_succ, subM, subL, AV.cells, and_self]
def kMed : C1 := C1.mby (hCons hBys (hCons (hP .id (cInt .i64)) (hCons (hP .id (cInt .i64)) (hCons (hP .id (cInt .i64)) (hCons (hBox 3 1 (hP .id (cInt .i64))) hNil)))))
  (fun d => 0 ≤ d.2.1 ∧ d.2.1 < d.1.length ∧ 0 ≤ d.2.2.1 ∧ d.2.2.1 < d.1.length ∧ 0 ≤ d.2.2.2.1 ∧ d.2.2.2.1 < d.1.length ∧ d.1.length ≤ 1000 ∧ 0 ≤ d.2.2.2.2.1 ∧ d.2.2.2.2.1 ≤ 100)
  (fun d => .int .i64 (med d.1 d.2.1.toNat d.2.2.1.toNat d.2.2.2.1.toNat d.2.2.2.2.1.toNat).1)
  (fun d => [.arr 5 1 (ofBytes d.1), .arr 3 1 [.int .i64 (med d.1 d.2.1.toNat d.2.2.1.toNat d.2.2.2.1.toNat d.2.2.2.2.1.toNat).2]])
theorem ok_med : C1OK Try.prog 84 kMed := C1OK.mby (by kernel_rfl) (fun d h => by
  obtain ⟨l, a, b, c, s, u⟩ := d
  obtain ⟨h1, h2, h3, h4, g1, g2, h5, h6, h7⟩ := h
  have h1 : 0 ≤ a := h1
  have h2 : a < l.length := h2
  have h3 : 0 ≤ b := h3
  have h4 : b < l.length := h4
  have g1 : 0 ≤ c := g1
  have g2 : c < l.length := g2
  have h5 : l.length ≤ 1000 := h5
  have h6 : 0 ≤ s := h6
  have h7 : s ≤ 100 := h7
  have := calls_med l a.toNat b.toNat c.toNat s.toNat (by omega) (by omega) (by omega) h5 (by omega)
  rw [show ((a.toNat : Nat) : Int) = a by omega, show ((b.toNat : Nat) : Int) = b by omega, show ((c.toNat : Nat) : Int) = c by omega, show ((s.toNat : Nat) : Int) = s by omega] at this
  exact this) (fun _ _ => Nat.le_refl _)

def chP (a b : Nat) (l : List UInt8) : Nat × Nat := med l (a + (b - a) / 4 * 1) (a + (b - a) / 4 * 2) (a + (b - a) / 4 * 3) 0
def chI (a b : Nat) (l : List UInt8) : Int := if (chP a b l).2 = 0 then 1 else 0
theorem chP_mem {a b : Nat} (l : List UInt8) (h : a + 8 ≤ b) : a ≤ (chP a b l).1 ∧ (chP a b l).1 < b ∧ (chP a b l).2 ≤ 3 := by
  obtain ⟨h1, h2⟩ := med_mem l (a + (b - a) / 4 * 1) (a + (b - a) / 4 * 2) (a + (b - a) / 4 * 3) 0 (fun x => a ≤ x ∧ x < b) (by omega) (by omega) (by omega)
  exact ⟨h1.1, h1.2, by unfold chP; omega⟩
theorem chP_eq {a b : Nat} (l : List UInt8) (h : a + 8 ≤ b) (h2 : b < a + 50) : Sort.choosePivot ltB l.toArray a b = ((chP a b l).1, if (chP a b l).2 = 0 then .increasing else .unknown) := by
  unfold Sort.choosePivot
  simp only [if_pos (show b - a ≥ 8 by omega), if_neg (show ¬ b - a ≥ 50 by omega)]
  show ((chP a b l).1, if (chP a b l).2 = 0 then Sort.Hint.increasing else if (chP a b l).2 = 12 then Sort.Hint.decreasing else Sort.Hint.unknown) = _
  have := (chP_mem l h).2.2
  rw [if_neg (show ¬ (chP a b l).2 = 12 by omega)]

set_option maxRecDepth 20000 in
set_option maxHeartbeats 4000000 in
theorem calls_choose (l : List UInt8) (a b : Nat) (h8 : a + 8 ≤ b) (h50 : b < a + 50) (hb : b ≤ l.length) (hl : l.length ≤ 1000) :
    CallsR Try.prog 72 [.own 0 1 l.length, .int .i64 a, .int .i64 b] [.arr 5 1 (ofBytes l)]
      (.tuple [.int .i64 (chP a b l).1, .int .i64 (chI a b l)]) [.arr 5 1 (ofBytes l)] := by
  refine callsR_of (mrg := true) (dyn := []) (CtrOK.cons ok_med (CtrOK.nil _)) mixed Try.func72 rfl (by simp [Try.ntmps72]) (by kernel_rfl) ?_
  rw [show Try.f72.results.toList = [.tmp 6, .tmp 7] from by kernel_rfl]
  obtain ⟨n, rfl⟩ : ∃ n, b = a + n := ⟨b - a, by omega⟩
  obtain ⟨q, hq⟩ : ∃ q, q = n / 4 := ⟨_, rfl⟩
  have hm := chP_mem l h8
  have hr : chP a (a + n) l = med l (a + q) (a + q * 2) (a + q * 3) 0 := by unfold chP; rw [Nat.add_sub_cancel_left, hq, Nat.mul_one]
  have hI : chI a (a + n) l = if (chP a (a + n) l).2 = 0 then 1 else 0 := rfl
  obtain ⟨r, hr0⟩ : ∃ r, r = chP a (a + n) l := ⟨_, rfl⟩
  rw [← hr0] at hm hr hI ⊢
  rw [hI]
  have w0 : IntKind.i64.wrap (((a + n : Nat) : Int) - (a : Int)) = (n : Int) := by rw [wrap64 (by omega) (by omega)]; omega
  have w1 : IntKind.i64.wrap ((n : Int).tdiv 4) = (q : Int) := by
    rw [show (n : Int).tdiv 4 = ((n / 4 : Nat) : Int) from rfl, wrap64 (by omega) (by omega), hq]
  have v1 : IntKind.i64.wrap ((q : Int) * 1) = (q : Int) := by rw [wrap64 (by omega) (by omega)]; omega
  have v2 : IntKind.i64.wrap ((q : Int) * 2) = ((q * 2 : Nat) : Int) := by rw [wrap64 (by omega) (by omega)]; omega
  have v3 : IntKind.i64.wrap ((q : Int) * 3) = ((q * 3 : Nat) : Int) := by rw [wrap64 (by omega) (by omega)]; omega
  have u1 : IntKind.i64.wrap ((a : Int) + (q : Int)) = ((a + q : Nat) : Int) := by rw [wrap64 (by omega) (by omega)]; omega
  have u2 : IntKind.i64.wrap ((a : Int) + ((q * 2 : Nat) : Int)) = ((a + q * 2 : Nat) : Int) := by rw [wrap64 (by omega) (by omega)]; omega
  have u3 : IntKind.i64.wrap ((a : Int) + ((q * 3 : Nat) : Int)) = ((a + q * 3 : Nat) : Int) := by rw [wrap64 (by omega) (by omega)]; omega
  have c8 : decide ((n : Int) ≥ 8) = true := decide_eq_true (by omega)
  have c50 : decide ((n : Int) ≥ 50) = false := decide_eq_false (by omega)
  have c12 : ((r.2 : Int) == 12) = false := by simp; omega
  by_cases hz : r.2 = 0
  · have cz : ((r.2 : Int) == 0) = true := by simp; omega
    rw [if_pos hz]
    simp (maxSteps := 4000000) only [↓wpA_H, ↓wpH_skip, ↓wpH_ret, ↓wpH_seq, ↓wpH_cond, ↓wpH_block, ↓wpH_region, ↓iselH_true, ↓iselH_false, bselH_false, runH_nil, runH_cons, gw, gselH_plain, cselH_bool, ↓chk, justK, noW, ↓oneK, ↓pureK, ↓heapK, envOf, ↓thenA_normal, ↓blockA_ret, ↓stepEv, opnd, Pg.look, binK, intOp, Bool.not_false, Bool.false_eq_true, implies_true, true_and, and_true, valV, heapV, footV, binV, intV, alives, aliveO, nxtQ, hdS, pairsA, frzA, closeQ_nil, closeQ_succ, diagQ_zero, diagQ_succ, Nat.reduceAdd, ofV, ofLeaf, retA, resK, tupA, subA, subQ, ptrsE, pairsO, frzO, subF, subG, pickOf, assocN, pairsE, pairsC, pairsL, pairs0, frzE, frzC, frzL, frz0, frzH, Pg.freeze, List.foldl_nil, subOs, subO, subEv, subV_succ, subM, subL, ldCells, objAt, ↓callT, normA, res8_eq, res_succ, resM, AV.cells, TK.cells, AV.definite, List.getElem?_cons_succ, List.getElem?_cons_zero, Option.getD_some, reduceCtorEq, Nat.reduceEqDiff, Nat.reduceAdd, Nat.reduceSub, List.nil_append, List.append_nil, List.cons_append, List.length_cons, List.length_nil, List.map_cons, List.map_nil, List.set_cons_zero, List.set_cons_succ, Nat.zero_add, Int.reduceToNat, ite_true, ite_false, Option.some.injEq, ne_eq, List.all_cons, List.all_nil, Bool.and_self, and_self, exists_eq_left', cInt_dec, length_ofBytes, Int.reduceLE, decL_byte, pureB_bytes, List.contains_cons, List.contains_nil, Nat.reduceBEq, Bool.or_self, List.range'_zero, Int.toNat_natCast, List.getD_cons_zero, Nat.sub_self, Nat.zero_lt_succ, regH_none, isNext, nextF, nextG, selC_false, ↓msel, muC, ↓callU, ↓callUV, ↓callUH, ↓callUF, C1mby_mu, runM_eq, mkM_some, hNil_dec, hCons_dec, app3_some, hP_dec, hP1_some, hP2_some, hO1_some, hO2_arr, hOwn_dec, hB1_some, hB2_arr, hBox_dec, pickF, nodupB, somes, fresh, gids, putO, ren, renL, renO, tk3, tz3, dz3, kMed, w0, w1, v1, v2, v3, u1, u2, u3, c8, c50, cz, renL_bytes, ← hr]
    exact ⟨by decide, by decide, by decide, ⟨by omega, by omega, by omega, by omega, by omega, by omega, by omega⟩, by decide, subX_eq rfl (pureB_bytes _)⟩
  · have cz : ((r.2 : Int) == 0) = false := by simp; omega
    rw [if_neg hz]
    simp (maxSteps := 4000000) only [↓wpA_H, ↓wpH_skip, ↓wpH_ret, ↓wpH_seq, ↓wpH_cond, ↓wpH_block, ↓wpH_region, ↓iselH_true, ↓iselH_false, bselH_false, runH_nil, runH_cons, gw, gselH_plain, cselH_bool, ↓chk, justK, noW, ↓oneK, ↓pureK, ↓heapK, envOf, ↓thenA_normal, ↓blockA_ret, ↓stepEv, opnd, Pg.look, binK, intOp, Bool.not_false, Bool.false_eq_true, implies_true, true_and, and_true, valV, heapV, footV, binV, intV, alives, aliveO, nxtQ, hdS, pairsA, frzA, closeQ_nil, closeQ_succ, diagQ_zero, diagQ_succ, Nat.reduceAdd, ofV, ofLeaf, retA, resK, tupA, subA, subQ, ptrsE, pairsO, frzO, subF, subG, pickOf, assocN, pairsE, pairsC, pairsL, pairs0, frzE, frzC, frzL, frz0, frzH, Pg.freeze, List.foldl_nil, subOs, subO, subEv, subV_succ, subM, subL, ldCells, objAt, ↓callT, normA, res8_eq, res_succ, resM, AV.cells, TK.cells, AV.definite, List.getElem?_cons_succ, List.getElem?_cons_zero, Option.getD_some, reduceCtorEq, Nat.reduceEqDiff, Nat.reduceAdd, Nat.reduceSub, List.nil_append, List.append_nil, List.cons_append, List.length_cons, List.length_nil, List.map_cons, List.map_nil, List.set_cons_zero, List.set_cons_succ, Nat.zero_add, Int.reduceToNat, ite_true, ite_false, Option.some.injEq, ne_eq, List.all_cons, List.all_nil, Bool.and_self, and_self, exists_eq_left', cInt_dec, length_ofBytes, Int.reduceLE, decL_byte, pureB_bytes, List.contains_cons, List.contains_nil, Nat.reduceBEq, Bool.or_self, List.range'_zero, Int.toNat_natCast, List.getD_cons_zero, Nat.sub_self, Nat.zero_lt_succ, regH_none, isNext, nextF, nextG, selC_false, ↓msel, muC, ↓callU, ↓callUV, ↓callUH, ↓callUF, C1mby_mu, runM_eq, mkM_some, hNil_dec, hCons_dec, app3_some, hP_dec, hP1_some, hP2_some, hO1_some, hO2_arr, hOwn_dec, hB1_some, hB2_arr, hBox_dec, pickF, nodupB, somes, fresh, gids, putO, ren, renL, renO, tk3, tz3, dz3, kMed, w0, w1, v1, v2, v3, u1, u2, u3, c8, c50, c12, cz, renL_bytes, ← hr]
    exact ⟨by decide, by decide, by decide, ⟨by omega, by omega, by omega, by omega, by omega, by omega, by omega⟩, by decide, subX_eq rfl (pureB_bytes _)⟩
def kChoose : C1 := C1.mby hAB (fun d => 0 ≤ d.2.1 ∧ d.2.1 + 8 ≤ d.2.2.1 ∧ d.2.2.1 < d.2.1 + 50 ∧ d.2.2.1 ≤ d.1.length ∧ d.1.length ≤ 1000) (fun d => .tuple [.int .i64 (chP d.2.1.toNat d.2.2.1.toNat d.1).1, .int .i64 (chI d.2.1.toNat d.2.2.1.toNat d.1)]) (fun d => [.arr 5 1 (ofBytes d.1)])
theorem ok_choose : C1OK Try.prog 72 kChoose := C1OK.mby (by kernel_rfl) (fun d h => by
  obtain ⟨l, a, b, u⟩ := d
  obtain ⟨h1, h2, h3, h4, h5⟩ := h
  have h1 : 0 ≤ a := h1
  have h2 : a + 8 ≤ b := h2
  have h3 : b < a + 50 := h3
  have h4 : b ≤ l.length := h4
  have h5 : l.length ≤ 1000 := h5
  have := calls_choose l a.toNat b.toNat (by omega) (by omega) (by omega) h5
  rw [show ((a.toNat : Nat) : Int) = a by omega, show ((b.toNat : Nat) : Int) = b by omega] at this
  exact this) (fun _ _ => Nat.le_refl _)

set_option maxRecDepth 20000 in
set_option maxHeartbeats 4000000 in
theorem calls_partial (l : List UInt8) (a b : Nat) (h8 : a < b) (h50 : b < a + 50) (hb : b ≤ l.length) (hl : l.length ≤ 1000) :
    CallsR Try.prog 74 [.own 0 1 l.length, .int .i64 a, .int .i64 b] [.arr 5 1 (ofBytes l)]
      (.bool (decide (scanS l b (a + 1) = b))) [.arr 5 1 (ofBytes l)] := by
  refine callsR_of (mrg := true) (dyn := []) (CtrOK.cons ok_Less (CtrOK.nil _)) mixed Try.func74 rfl (by simp [Try.ntmps74]) (by kernel_rfl) ?_
  rw [show Try.f74.results.toList = [.tmp 6] from by kernel_rfl]
  have w0 : IntKind.i64.wrap ((a : Int) + 1) = ((a + 1 : Nat) : Int) := by rw [wrap64 (by omega) (by omega)]; omega
  have w1 : IntKind.i64.wrap ((b : Int) - (a : Int)) = ((b - a : Nat) : Int) := by rw [wrap64 (by omega) (by omega)]; omega
  have c50 : decide (((b - a : Nat) : Int) < 50) = true := decide_eq_true (by omega)
  obtain ⟨I, hI⟩ : ∃ I, I = scanS l b (a + 1) := ⟨_, rfl⟩
  rw [← hI]
  simp (maxSteps := 4000000) only [↓wpA_H, ↓wpH_seq, ↓wpH_block, ↓wpH_loop, ↓wpH_region, bselH_false, runH_nil, runH_cons, gw, gselH_plain, ↓chk, justK, ↓oneK, ↓pureK, envOf, ↓thenA_normal, ↓stepEv, opnd, Pg.look, binK, intOp, Bool.false_eq_true, implies_true, true_and, valV, heapV, footV, binV, intV, Nat.reduceAdd, ofV, ofLeaf, reduceCtorEq, Nat.reduceEqDiff, Nat.reduceAdd, List.length_cons, List.length_nil, Nat.zero_add, ite_true, ite_false, and_self, List.contains_nil, regH_none, isNext, nextF, nextG, selC_false, kLess, w0]
  refine loopH_intro (α := Unit) (fun _ => ([(8, .int .i64 0), (7, .int .i64 (a + 1 : Nat)), (0, .own 0 1 l.length), (1, .int .i64 a), (2, .int .i64 b)], [.arr 5 1 (ofBytes l)])) (fun _ => True) (fun _ => 0) () trivial ?_ ?_
  · simp (maxSteps := 4000000) only [Pg.look, true_and, and_true, alives, aliveO, nxtQ, hdS, pairsA, frzA, closeQ_nil, closeQ_succ, diagQ_zero, diagQ_succ, subA, subQ, ptrsE, pairsO, frzO, subF, subG, pickOf, assocN, pairsE, pairsC, pairs0, frzE, frzC, frz0, frzH, Pg.freeze, List.foldl_nil, subOs, subO, subEv, subV_succ, subM, List.getElem?_cons_zero, reduceCtorEq, Nat.reduceEqDiff, List.nil_append, List.append_nil, ite_true, ite_false, and_self, pureB_bytes, Nat.zero_lt_succ]
    exact ⟨by decide, subX_eq rfl (pureB_bytes _)⟩
  intro _ _
  simp (maxSteps := 4000000) only [↓wpA_H, ↓wpH_skip, ↓wpH_ret, ↓wpH_exit, ↓wpH_seq, ↓wpH_cond, ↓wpH_block, ↓wpH_loop, ↓wpH_region, iselH_if, bselH_false, runH_nil, runH_cons, gw, gselH_plain, cselH_bool, ↓chk, justK, ↓oneK, ↓pureK, ↓thenA_normal, ↓thenA_exit, ↓blockA_exit, ↓stepEv, opnd, Pg.look, binK, intOp, Bool.false_eq_true, false_implies, implies_true, true_and, and_true, forall_const, valV, heapV, footV, binV, intV, alives, aliveO, nxtQ, hdS, pairsA, frzA, closeQ_nil, closeQ_succ, diagQ_zero, diagQ_succ, ofV, ofLeaf, retA, resK, tupA, subA, subQ, ptrsE, pairsO, frzO, subF, subG, pickOf, assocN, pairsE, pairsC, pairs0, frzE, frzC, frz0, frzH, Pg.freeze, List.foldl_nil, subOs, subO, subEv, subV_succ, subM, List.getElem?_cons_zero, reduceCtorEq, Nat.reduceEqDiff, List.nil_append, List.append_nil, List.length_cons, List.length_nil, Nat.zero_add, ite_true, ite_false, decide_eq_true_eq, decide_eq_false_iff_not, not_true_eq_false, and_self, Int.reduceLT, pureB_bytes, List.contains_nil, Nat.zero_lt_succ, regH_none, isNext, nextF, nextG, selC_false, kLess]
  refine loopH_intro (α := Nat) (fun i => ([(7, .int .i64 i), (8, .int .i64 0), (0, .own 0 1 l.length), (1, .int .i64 a), (2, .int .i64 b)], [.arr 5 1 (ofBytes l)])) (fun i => a + 1 ≤ i ∧ i ≤ b ∧ scanS l b i = I) (fun i => b - i) (a + 1) ⟨Nat.le_refl _, h8, hI.symm⟩ ?_ ?_
  · simp (maxSteps := 4000000) only [Pg.look, true_and, and_true, alives, aliveO, nxtQ, hdS, pairsA, frzA, closeQ_nil, closeQ_succ, diagQ_zero, diagQ_succ, subA, subQ, ptrsE, pairsO, frzO, subF, subG, pickOf, assocN, pairsE, pairsC, pairs0, frzE, frzC, frz0, frzH, Pg.freeze, List.foldl_nil, subOs, subO, subEv, subV_succ, subM, List.getElem?_cons_zero, reduceCtorEq, Nat.reduceEqDiff, List.nil_append, List.append_nil, ite_true, ite_false, and_self, pureB_bytes, Nat.zero_lt_succ]
    exact ⟨by decide, subX_eq rfl (pureB_bytes _)⟩
  rintro i ⟨hi1, hi2, hi3⟩
  have hi1 : a + 1 ≤ i := hi1
  have hi2 : i ≤ b := hi2
  have hi3 : scanS l b i = I := hi3
  obtain ⟨k, rfl⟩ : ∃ k, i = k + 1 := ⟨i - 1, by omega⟩
  have w2 : IntKind.i64.wrap (((k + 1 : Nat) : Int) - 1) = (k : Int) := by rw [wrap64 (by omega) (by omega)]; omega
  have w3 : (k + 1 : Nat) < b → IntKind.i64.wrap (((k + 1 : Nat) : Int) + 1) = ((k + 1 + 1 : Nat) : Int) := fun _ => by rw [wrap64 (by omega) (by omega)]; omega
  have hsc := scanS_eq l b (k + 1)
  rw [hi3, Nat.add_sub_cancel] at hsc
  simp (maxSteps := 4000000) only [↓wpA_H, ↓wpH_skip, ↓wpH_ret, ↓wpH_exit, ↓wpH_seq, ↓wpH_cond, ↓wpH_block, ↓wpH_region, ↓iselH_true, iselH_if, bselH_false, runH_nil, runH_cons, gw, gselH_plain, gselH_if, kselH_1, cselH_bool, gkind, ↓chk, justK, noW, ↓oneK, ↓pureK, ↓heapK, ↓thenA_normal, ↓thenA_ret, ↓thenA_exit, ↓blockA_normal, ↓blockA_ret, ↓blockA_exit, ↓stepEv, opnd, Pg.look, binK, intOp, dstOf, Bool.false_eq_true, implies_true, imp_self, true_and, and_true, pickC, pickV, unc, gof, mux, mergeK, condsL, valV, heapV, footV, binV, intV, alives, aliveO, nxtQ, hdS, pairsA, frzA, closeQ_nil, closeQ_succ, diagQ_zero, diagQ_succ, mergeable, look_stripE, ofV, ofLeaf, sameK, retA, resK, tupA, subA, subQ, ptrsE, pairsO, frzO, subF, subG, pickOf, assocN, pairsE, pairsC, pairs0, frzE, frzC, frz0, frzH, Pg.freeze, List.foldl_nil, subOs, subO, subEv, subV_succ, subM, ldCells, objAt, ↓callT, callC, callV, normArgs, normA, resL, res8_eq, res_succ, resM, shiftR, shift1, AV.cells, TK.cells, Op.operands, Call.operands, Array.toList_append, List.getElem?_toArray, List.getElem?_cons_succ, List.getElem?_cons_zero, Option.bind_some, Option.getD_some, reduceCtorEq, Nat.reduceEqDiff, List.nil_append, List.append_nil, List.cons_append, List.length_cons, List.length_nil, List.map_cons, List.map_nil, Nat.zero_add, ite_true, ite_false, Option.some.injEq, Option.isSome_none, Bool.if_false_right, decide_eq_true_eq, decide_eq_false_iff_not, Int.not_lt, Bool.and_self, and_self, exists_eq_left', List.toList_toArray, length_ofBytes, getD_ofBytes, cByte_dec, lOne_dec, lCons_dec, dec2_some, pureB_bytes, List.contains_nil, List.range'_zero, C1by_ns, C1by_pre, C1by_r, C1by_H, optP_some, optV_some, optH_some, Int.toNat_natCast, Nat.lt_irrefl, Nat.zero_lt_succ, C1by_it, regH_none, isNext, nextF, nextG, selC_true, selC_false, pureC, ↓msel, muC, ↓callP, C1by_mu, tk5, dz5, tk32, kLess, w1, c50, w2]
  have hb1 : decide (((k + 1 : Nat) : Int) < (b : Int)) = decide (k + 1 < b) := by rw [Bool.eq_iff_iff]; simp only [decide_eq_true_eq]; omega
  rw [hb1]
  refine ⟨fun h => ⟨h, by omega, by omega⟩, fun h => ⟨h, by omega⟩, fun h => ⟨h, by omega, by omega⟩, fun h => ⟨h, by omega⟩, fun h => ?_, fun h => ?_⟩
  · rw [if_pos h] at hsc
    simp only [Bool.and_eq_true, decide_eq_true_eq] at h
    exact ⟨k + 1 + 1, ⟨by omega, by omega, hsc.symm⟩, by omega, by decide, subX_eq rfl (pureB_bytes _), w3 h.1⟩
  · rw [if_neg (by rw [h]; simp)] at hsc
    rw [hsc]
    refine ⟨fun h => ⟨by decide, subX_eq rfl (pureB_bytes _), ?_⟩, fun h => ⟨by decide, subX_eq rfl (pureB_bytes _), ?_⟩⟩
    · simp only [beq_iff_eq] at h
      exact (decide_eq_true (by omega)).symm
    · simp only [beq_eq_false_iff_ne, ne_eq] at h
      exact (decide_eq_false (by omega)).symm
def kPartial : C1 := C1.mby hAB (fun d => 0 ≤ d.2.1 ∧ d.2.1 < d.2.2.1 ∧ d.2.2.1 < d.2.1 + 50 ∧ d.2.2.1 ≤ d.1.length ∧ d.1.length ≤ 1000) (fun d => .bool (decide (scanS d.1 d.2.2.1.toNat (d.2.1.toNat + 1) = d.2.2.1.toNat))) (fun d => [.arr 5 1 (ofBytes d.1)])
theorem ok_partial : C1OK Try.prog 74 kPartial := C1OK.mby (by kernel_rfl) (fun d h => by
  obtain ⟨l, a, b, u⟩ := d
  obtain ⟨h1, h2, h3, h4, h5⟩ := h
  have h1 : 0 ≤ a := h1
  have h2 : a < b := h2
  have h3 : b < a + 50 := h3
  have h4 : b ≤ l.length := h4
  have h5 : l.length ≤ 1000 := h5
  have := calls_partial l a.toNat b.toNat (by omega) (by omega) (by omega) h5
  rw [show ((a.toNat : Nat) : Int) = a by omega, show ((b.toNat : Nat) : Int) = b by omega] at this
  exact this) (fun _ _ => Nat.le_refl _)
end Go.Pg
namespace Go.Pg
open Go Go.Proofs

theorem calls_Len (x : Int) (h0 : 0 ≤ x) (h1 : x ≤ 18446744073709551615) : CallsR Try.prog 67 [.int .u64 x] [] (.int .i64 (Lib.bitLen x.toNat)) [] := by
  refine callsR_below fun E vals hv => ?_
  obtain ⟨u, rfl, k⟩ := hv.one
  rw [k.int_inv]
  refine (Try.bits_Len x E.W h0 h1).mono fun e W' ⟨he, hw⟩ => ⟨⟨_, he, fun E' => .int _ _⟩, by rw [hw]; exact RowKit.Below.refl _ _⟩
def kLen : C1 := C1.by [.id] (lOne (cInt .u64)) (fun d => 0 ≤ d ∧ d ≤ 18446744073709551615) (fun d => .int .i64 (Lib.bitLen d.toNat)) (fun _ => [])
theorem ok_Len : C1OK Try.prog 67 kLen := C1OK.by (by kernel_rfl) (fun d h => calls_Len d h.1 h.2) (fun _ => rfl) (fun _ => rfl)

set_option maxRecDepth 20000 in
set_option maxHeartbeats 4000000 in
theorem calls_SortS (l : List UInt8) (hl : l.length ≤ 12) :
    CallsR Try.prog 60 [.own 0 1 l.length] [.arr 5 1 (ofBytes l)] (.tuple []) [.arr 5 1 (ofBytes (insS 0 l.length l))] := by
  refine callsR_of (mrg := true) (dyn := []) (CtrOK.cons ok_Len (CtrOK.cons ok_pdqS (CtrOK.nil _))) mixed Try.func60 rfl (by simp [Try.ntmps60]) (by kernel_rfl) ?_
  rw [show Try.f60.results.toList = [] from by kernel_rfl]
  simp (maxSteps := 4000000) only [↓wpA_H, ↓wpH_seq, ↓wpH_region, bselH_false, runH_nil, runH_cons, gw, gselH_plain, ↓chk, justK, ↓oneK, ↓pureK, envOf, ↓thenA_normal, ↓stepEv, opnd, Pg.look, Bool.not_false, Bool.false_eq_true, false_implies, implies_true, true_and, and_true, valV, heapV, footV, alives, aliveO, nxtQ, hdS, pairsA, frzA, closeQ_nil, closeQ_succ, diagQ_zero, diagQ_succ, ofV, ofLeaf, retA, resK, tupA, subA, subQ, ptrsE, pairsO, frzO, subF, subG, pickOf, assocN, pairsE, pairsC, pairsL, frzE, frzC, frzL, frzH, Pg.freeze, List.foldl_nil, subOs, subO, subEv, subV_succ, subM, subL, slen, ↓callT, callC, callV, callH, normArgs, normA, resL, res8_eq, res_succ, resM, shiftR, shift1, List.getElem?_cons_zero, Option.getD_some, reduceCtorEq, Nat.reduceEqDiff, List.nil_append, List.append_nil, List.cons_append, List.length_cons, List.length_nil, List.map_cons, List.map_nil, List.set_cons_zero, Nat.zero_add, ite_true, ite_false, Option.some.injEq, AV.int.injEq, Prod.mk.injEq, ne_eq, not_false_eq_true, List.all_cons, List.all_nil, Bool.and_self, and_self, exists_eq_left', cInt_dec, length_ofBytes, decL_byte, lOne_dec, pureB_bytes, List.contains_nil, List.range'_zero, C1by_ns, C1by_pre, C1by_r, C1by_H, optP_some, optV_some, optH_some, Nat.sub_self, Nat.zero_lt_succ, C1by_it, regH_none, isNext, nextF, nextG, selC_false, ↓msel, muC, ↓callP, ↓callU, ↓callUV, ↓callUH, ↓callUF, C1by_mu, C1mby_mu, runM_eq, mkM_some, hNil_dec, hCons_dec, app3_some, hP_dec, hP1_some, hP2_some, hO1_some, hO2_arr, hOwn_dec, pickF, nodupB, somes, fresh, gids, putO, ren, renL, renO, tk3, tk32, tk108, kLen, kPdqS, renL_bytes]
  have e : IntKind.u64.wrap (l.length : Int) = (l.length : Int) := by rw [IntKind.wrap_u64]; omega
  rw [e]
  exact ⟨⟨by omega, by omega⟩, hl, by decide, subX_eq rfl (pureB_bytes _)⟩

/-! ### In order -/
theorem swoB : Sort.SWO ltB where
  irrefl x := by simp [ltB]
  trans x y z h1 h2 := by simp only [ltB, decide_eq_true_eq] at *; omega
  ntrans x y z h1 h2 := by simp only [ltB, decide_eq_false_iff_not] at *; omega
def leU (x y : UInt8) : Bool := !ltB y x
def srt (l : List UInt8) : List UInt8 := l.mergeSort leU
theorem leU_iff (x y : UInt8) : leU x y = true ↔ x.toNat ≤ y.toNat := by simp [leU, ltB]
theorem srt_len (l : List UInt8) : (srt l).length = l.length := List.length_mergeSort _
theorem srt_perm {l l' : List UInt8} (h : l.Perm l') : srt l = srt l' := by
  have tr : ∀ a b c : UInt8, leU a b = true → leU b c = true → leU a c = true := fun a b c h1 h2 => by simp only [leU_iff] at *; omega
  have to : ∀ a b : UInt8, (leU a b || leU b a) = true := fun a b => by simp only [Bool.or_eq_true, leU_iff]; omega
  refine List.Perm.eq_of_pairwise (le := fun a b => leU a b = true) (fun a b _ _ h1 h2 => ?_) (List.pairwise_mergeSort tr to l) (List.pairwise_mergeSort tr to l') (((List.mergeSort_perm l leU).trans h).trans (List.mergeSort_perm l' leU).symm)
  simp only [leU_iff] at h1 h2
  exact UInt8.toNat_inj.1 (by omega)
theorem insS_srt (l : List UInt8) : insS 0 l.length l = srt l := by
  rw [insS_eq]
  have h := Sort.insertionSort_holds swoB l.toArray 0 l.length (Nat.zero_le _) (by simp)
  have e : l.toArray.size = l.length := by simp
  rw [← e] at h ⊢
  exact Sort.sorted_unique_holds swoB (fun x y h1 h2 => by simp only [ltB, decide_eq_false_iff_not] at h1 h2; exact UInt8.toNat_inj.1 (by omega)) l.toArray _ h.1 h.2

theorem calls_SortedS (l : Mks) (hl : l.length ≤ 12) : CallsR Try.prog 47 [aKeys l] [] (.own 0 1 l.length) [.arr 5 1 (ofBytes (srt (keysOf l)))] := by
  intro E vals hr hv
  obtain ⟨g, rfl, kg⟩ := hv.one
  refine (pass_Sorted E.W g (fun v w'' => ∃ E', E'.W = w'' ∧ VR E' (.own 0 1 l.length) v ∧ Rel [.arr 5 1 (ofBytes (srt (keysOf l)))] E' ∧ Step [] E [.arr 5 1 (ofBytes (srt (keysOf l)))] E') ?_).mono fun e W' ⟨v, he, E', h1, h2, h3, h4⟩ => ⟨v, E', he, h1, h2, h3, h4⟩
  refine pass_Collect E.W g _ ?_
  refine (calls_AppendSeq l (by omega) E #[.slice none 0 0, g] hr ⟨rfl, fun i c hc => ?_⟩).mono fun e W' ⟨t, v, E1, hx, he, hW, hvr, hr1, hst⟩ => ⟨v, he, ?_⟩
  · match i, hc with
    | 0, hc => cases hc; exact .nls
    | 1, hc => cases hc; exact kg
    | i + 2, hc => simp at hc
  · subst hW
    have htl : t.length = l.length := by rw [hx.length_eq]; simp [keysOf]
    refine (calls_SortS t (by omega) E1 #[v] hr1 ⟨rfl, fun i c hc => ?_⟩).mono fun e W'' ⟨u, E2, he, hW, _, hr2, hst2⟩ => ⟨⟨u, he⟩, E2, hW, ?_, ?_, ?_⟩
    · match i, hc with
      | 0, hc => cases hc; exact hvr
      | i + 1, hc => simp at hc
    · rw [← htl]; exact hvr.mono (hst2.ext hr1)
    · rw [insS_srt, srt_perm hx] at hr2; exact hr2
    · rw [insS_srt, srt_perm hx] at hst2; exact hst.trans hst2
def kKeys : C1 := C1.by [.id] (lOne (cFm cByte cPos)) (fun _ => True) (fun d => aKeys d) (fun _ => [])
theorem ok_Keys : C1OK Try.prog 48 kKeys := C1OK.by (by kernel_rfl) (fun d _ => calls_Keys d) (fun _ => rfl) (fun _ => rfl)
def lSorted : CdL Mks := lOne (cFn 61 lKeys)
theorem lSorted_dec (l : Mks) : lSorted.dec [.fn 61 [.rp [.fm (encE cByte cPos l)]]] = some l := decE_pos l
theorem cFmPos_dec (l : Mks) : (cFm cByte cPos).dec (.fm (encE cByte cPos l)) = some l := decE_pos l
def kSorted : C1 := C1.by [.id] lSorted (fun d => d.length ≤ 12) (fun d => .own 0 1 d.length) (fun d => [.arr 5 1 (ofBytes (srt (keysOf d)))])
theorem ok_Sorted : C1OK Try.prog 47 kSorted := C1OK.by (by kernel_rfl) (fun d h => calls_SortedS d h) (fun _ => rfl) (fun d => by simp [okObj, pureB_bytes])

abbrev mkF (l : Mks) : AH := [.arr 83 1 [.agg [.mp 1]], .fmp (encE cByte cPos l)]
set_option maxRecDepth 20000 in
set_option maxHeartbeats 4000000 in
theorem calls_NamesF (l : Mks) (hl : l.length ≤ 12) : CallsR Try.prog 25 [.ptr 0 1 1 0 0] (mkF l) (.own 2 1 l.length) (mkF l ++ [.arr 5 1 (ofBytes (srt (keysOf l)))]) := by
  refine callsR_of (mrg := true) (dyn := []) (CtrOK.cons ok_Keys (CtrOK.cons ok_Sorted (CtrOK.nil _))) mixed Try.func25 rfl (by simp [Try.ntmps25]) (by kernel_rfl) ?_
  rw [show Try.f25.results.toList = [.tmp 2] from by kernel_rfl]
  simp (maxSteps := 4000000) only [↓wpA_H, ↓wpH_ret, ↓wpH_seq, ↓wpH_region, bselH_false, runH_nil, runH_cons, gw, gselH_plain, ↓chk, justK, noW, ↓oneK, ↓pureK, ↓heapK, envOf, ↓thenA_normal, ↓stepEv, opnd, Pg.look, Bool.and_true, Bool.false_eq_true, false_implies, implies_true, true_and, and_true, valV, heapV, footV, alives, aliveO, nxtQ, hdS, pairsA, frzA, closeQ_nil, closeQ_succ, diagQ_zero, diagQ_succ, Nat.reduceAdd, ofV, ofLeaf, retA, resK, tupA, subA, subQ, ptrsE, pairsO, frzO, subF, subG, pickOf, assocN, pairsE, pairsC, pairsL, pairs0, frzE, frzC, frzL, frz0, frzH, Pg.freeze, List.foldl_nil, List.foldl_cons, subOs, subO, subEv, subV_succ, subM, ldCells, objAt, ↓callT, callC, callV, callH, normArgs, normA, resL, res8_eq, res_succ, resM, shiftR, shift1, AV.cells, TK.cells, AV.pureLeaf, AV.pureB, frzAt, List.getElem?_cons_succ, List.getElem?_cons_zero, Option.getD_some, reduceCtorEq, Nat.reduceEqDiff, Nat.reduceAdd, Nat.reduceLT, List.nil_append, List.append_nil, List.cons_append, List.length_cons, List.length_nil, List.map_cons, List.map_nil, Nat.zero_add, ite_true, ite_false, Option.some.injEq, Prod.mk.injEq, List.all_cons, List.all_nil, and_self, exists_eq_left', lOne_dec, List.contains_nil, List.range'_zero, C1by_ns, C1by_pre, C1by_r, C1by_H, optP_some, optV_some, optH_some, List.getD_cons_zero, Nat.add_zero, Nat.lt_irrefl, Nat.zero_lt_succ, C1by_it, regH_none, isNext, nextF, nextG, selC_false, ↓msel, muC, ↓callP, C1by_mu, mapAt, List.range'_succ, tk81, tk83, dz83, kKeys, kSorted, aKeys, lSorted_dec, cFmPos_dec, mkF]
  refine ⟨hl, by decide, subX_one ?_, subX_eq rfl (pureB_bytes _)⟩
  simp (maxSteps := 4000000) only [subV_succ, subM, subL, AV.cells, List.getElem?_cons_succ, List.getElem?_cons_zero, and_self]

theorem frs_entE (l : Mks) : (encE cByte cPos l).all (fun p => p.1.okS 4 && p.2.okS 4) = true := by
  simp only [encE, List.all_map, List.all_eq_true]
  intro p _
  rfl
theorem frs_bytes (l : List UInt8) : (ofBytes l).all (fun v => v.cells.all (AV.frs 4)) = true := by
  simp only [ofBytes, List.all_map, List.all_eq_true]
  intro b _
  rfl
theorem calls_Names (l : Mks) (hl : l.length ≤ 12) : CallsR Try.prog 25 [.ptr 0 1 1 0 0] (mkH l) (.own 2 1 l.length) (mkH l ++ [.arr 5 1 (ofBytes (srt (keysOf l)))]) := by
  refine callsR_thaw (id := 1) (es := encE cByte cPos l) rfl rfl rfl ?_ ?_ (calls_NamesF l hl)
  · simp only [mkH, List.cons_append, List.nil_append, List.all_cons, List.all_nil, Bool.and_true, Bool.and_eq_true]
    exact ⟨rfl, frs_entE l, frs_bytes _⟩
  · intro E vals hr hv
    obtain ⟨u, rfl, k⟩ := hv.one
    cases k with
    | ptr _ _ _ _ _ v hm hl =>
      obtain ⟨b, hb, _⟩ := (hl 1 (by rw [hr.hl]; rfl)).2 rfl
      have ho := hr.orow 0 _ _ rfl hb
      rcases ho with ⟨h, _⟩ | ⟨b', c, fz, h1, h2, h3, h4, h5⟩
      · cases h
      · obtain ⟨u, _, h6⟩ := (h5 0 _ rfl).2 0 (.mp 1) rfl
        cases h6 with
        | mp _ b hm' _ => exact hm'
def kNames : C1 := C1.mby (hCons hMarks hNil) (fun d => d.1.1.length ≤ 12) (fun d => .own 2 1 d.1.1.length) (fun d => mkH d.1.1 ++ [.arr 5 1 (ofBytes (srt (keysOf d.1.1)))])
theorem ok_Names : C1OK Try.prog 25 kNames := C1OK.mby (by kernel_rfl) (fun d h => calls_Names d.1.1 h) (fun _ _ => by show 2 ≤ 3; omega)
end Go.Pg
