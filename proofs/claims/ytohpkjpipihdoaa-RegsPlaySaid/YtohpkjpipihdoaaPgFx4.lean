/- Sorting of bytes: patterns are broken. Sorting of bytes: one round of the sort, plain. -/
import Derived.Test.YtohpkjpipihdoaaPgFx3
import Derived.Sort.LotD5
import Derived.Laws.Bits64
namespace Go.Pg
open Go Go.Proofs

theorem xorI (a b : Nat) (ha : a < 18446744073709551616) (hb : b < 18446744073709551616) : IntKind.u64.wrap ((BitVec.ofInt IntKind.u64.bits (a : Int) ^^^ BitVec.ofInt IntKind.u64.bits (b : Int)).toNat : Int) = ((a ^^^ b : Nat) : Int) := bits_xor_u64_nat a b ha hb
theorem andI (a b : Nat) (ha : a < 18446744073709551616) (hb : b < 18446744073709551616) : IntKind.u64.wrap ((BitVec.ofInt IntKind.u64.bits (a : Int) &&& BitVec.ofInt IntKind.u64.bits (b : Int)).toNat : Int) = ((a &&& b : Nat) : Int) := by
  have hx : a &&& b ≤ a := Nat.and_le_left
  have h1 : (BitVec.ofInt IntKind.u64.bits (a : Int)).toNat = a := by
    show (BitVec.ofInt 64 (a : Int)).toNat = a
    rw [BitVec.ofInt_natCast, BitVec.toNat_ofNat]; exact Nat.mod_eq_of_lt (by omega)
  have h2 : (BitVec.ofInt IntKind.u64.bits (b : Int)).toNat = b := by
    show (BitVec.ofInt 64 (b : Int)).toNat = b
    rw [BitVec.ofInt_natCast, BitVec.toNat_ofNat]; exact Nat.mod_eq_of_lt (by omega)
  rw [BitVec.toNat_and, h1, h2, IntKind.wrap_u64]
  omega

set_option maxRecDepth 20000 in
set_option maxHeartbeats 4000000 in
theorem calls_Next (X : Nat) (hX : X < 18446744073709551616) : CallsR Try.prog 82 [.ptr 0 1 1 0 0] [.arr 121 1 [.int .u64 X]]
    (.int .u64 (Sort.xorNextN X)) [.arr 121 1 [.int .u64 (Sort.xorNextN X)]] := by
  refine callsR_of (mrg := true) (dyn := []) (CtrOK.nil _) mixed Try.func82 rfl (by simp [Try.ntmps82]) (by kernel_rfl) ?_
  rw [show Try.f82.results.toList = [.tmp 2] from by kernel_rfl]
  obtain ⟨A, hA⟩ : ∃ A : Nat, A = X ^^^ (X * 8192 % 18446744073709551616) := ⟨_, rfl⟩
  obtain ⟨B, hB⟩ : ∃ B : Nat, B = A ^^^ (A / 128) := ⟨_, rfl⟩
  obtain ⟨C, hC⟩ : ∃ C : Nat, C = B ^^^ (B * 131072 % 18446744073709551616) := ⟨_, rfl⟩
  have lA : A < 18446744073709551616 := by rw [hA]; exact Nat.xor_lt_two_pow (n := 64) (by omega) (by omega)
  have lB : B < 18446744073709551616 := by rw [hB]; exact Nat.xor_lt_two_pow (n := 64) (by omega) (by omega)
  have hv : Sort.xorNextN X = C := by unfold Sort.xorNextN; simp only []; rw [← hA, ← hB, ← hC]
  rw [hv]
  have s1 : IntKind.u64.wrap ((X : Int) * 2 ^ min 13 IntKind.u64.bits) = ((X * 8192 % 18446744073709551616 : Nat) : Int) := by
    rw [show (2 : Int) ^ min 13 IntKind.u64.bits = 8192 from rfl, IntKind.wrap_u64]; omega
  have s2 : (A : Int).fdiv (2 ^ min 7 IntKind.u64.bits) = ((A / 128 : Nat) : Int) := by
    rw [show (2 : Int) ^ min 7 IntKind.u64.bits = 128 from rfl, Int.fdiv_eq_ediv_of_nonneg _ (by decide)]; omega
  have s3 : IntKind.u64.wrap ((B : Int) * 2 ^ min 17 IntKind.u64.bits) = ((B * 131072 % 18446744073709551616 : Nat) : Int) := by
    rw [show (2 : Int) ^ min 17 IntKind.u64.bits = 131072 from rfl, IntKind.wrap_u64]; omega
  have x1 := xorI X (X * 8192 % 18446744073709551616) hX (by omega)
  rw [← hA] at x1
  have x2 := xorI A (A / 128) lA (by omega)
  rw [← hB] at x2
  have x3 := xorI B (B * 131072 % 18446744073709551616) lB (by omega)
  rw [← hC] at x3
  simp (maxSteps := 4000000) only [↓wpA_H, ↓wpH_ret, ↓wpH_seq, ↓wpH_region, bselH_false, runH_nil, runH_cons, gw, gselH_plain, ↓chk, justK, noW, ↓oneK, ↓pureK, ↓heapK, envOf, ↓thenA_normal, ↓stepEv, opnd, Pg.look, binK, intOp, Bool.false_eq_true, implies_true, true_and, and_true, valV, heapV, footV, binV, intV, alives, aliveO, nxtQ, hdS, pairsA, frzA, closeQ_nil, closeQ_succ, diagQ_zero, diagQ_succ, ofV, ofLeaf, retA, resK, tupA, subA, subQ, ptrsE, pairsO, frzO, subF, subG, pickOf, assocN, pairsE, pairsC, pairs0, frzE, frzC, frz0, frzH, Pg.freeze, List.foldl_nil, subOs, subO, subEv, subV_succ, subM, ldCells, objAt, AV.cells, TK.cells, AV.leaf, AV.leafy, AV.pureLeaf, AV.pureB, putCells, List.getElem?_cons_zero, Option.getD_some, reduceCtorEq, Nat.reduceEqDiff, List.nil_append, List.append_nil, List.length_cons, List.length_nil, List.set_cons_zero, Nat.zero_add, Int.reduceToNat, ite_true, ite_false, Option.some.injEq, List.all_cons, List.all_nil, Bool.and_self, and_self, exists_eq_left', Int.reduceLE, List.contains_nil, List.getD_cons_zero, Nat.le_refl, Nat.zero_lt_succ, regH_none, isNext, nextF, nextG, selC_true, selC_false, pureC, tk121, dz121, s1, s2, s3, x1, x2, x3]
  refine ⟨by decide, subX_one ?_⟩
  simp (maxSteps := 4000000) only [subV_succ, subM, subL, AV.cells, and_self]
def kNext : C1 := C1.mby (hCons (hBox 121 1 (hP .id (cInt .u64))) hNil) (fun d => 0 ≤ d.1 ∧ d.1 < 18446744073709551616) (fun d => .int .u64 (Sort.xorNextN d.1.toNat)) (fun d => [.arr 121 1 [.int .u64 (Sort.xorNextN d.1.toNat)]])
theorem ok_Next : C1OK Try.prog 82 kNext := C1OK.mby (by kernel_rfl) (fun d h => by
  obtain ⟨x, u⟩ := d
  obtain ⟨h1, h2⟩ := h
  have h1 : 0 ≤ x := h1
  have h2 : x < 18446744073709551616 := h2
  have := calls_Next x.toNat (by omega)
  rw [show ((x.toNat : Nat) : Int) = x by omega] at this
  exact this) (fun _ _ => Nat.le_refl _)

theorem bitLen64 : ∀ n, n < 64 → Lib.bitLen n = Sort.bitsLen n := by decide +kernel
set_option maxRecDepth 20000 in
set_option maxHeartbeats 4000000 in
theorem calls_pow2 (n : Nat) (hn : n < 64) : CallsR Try.prog 81 [.int .i64 n] [] (.int .u64 (2 ^ Sort.bitsLen n : Nat)) [] := by
  refine callsR_of (mrg := true) (dyn := []) (CtrOK.cons ok_Len (CtrOK.nil _)) mixed Try.func81 rfl (by simp [Try.ntmps81]) (by kernel_rfl) ?_
  rw [show Try.f81.results.toList = [.tmp 2] from by kernel_rfl]
  have w1 : IntKind.u64.wrap (n : Int) = (n : Int) := by rw [IntKind.wrap_u64]; omega
  have e : Lib.bitLen n = Sort.bitsLen n := bitLen64 n hn
  have hk : Sort.bitsLen n ≤ 10 := (Sort.bitsLen_le_iff n 10).2 (by omega)
  have hp : 2 ^ Sort.bitsLen n ≤ 2 ^ 10 := Nat.pow_le_pow_right (by omega) hk
  obtain ⟨p, hpe⟩ : ∃ p, p = 2 ^ Sort.bitsLen n := ⟨_, rfl⟩
  rw [← hpe] at hp
  have w2 : IntKind.u64.wrap (1 * 2 ^ min (Sort.bitsLen n) IntKind.u64.bits) = (p : Int) := by
    rw [show min (Sort.bitsLen n) IntKind.u64.bits = Sort.bitsLen n from Nat.min_eq_left (by show _ ≤ 64; omega), Int.one_mul, IntKind.wrap_u64, show (2 : Int) ^ Sort.bitsLen n = (p : Int) by rw [hpe]; simp]
    omega
  rw [← hpe]
  simp (maxSteps := 4000000) only [↓wpA_H, ↓wpH_ret, ↓wpH_seq, ↓wpH_region, bselH_false, runH_nil, runH_cons, gw, gselH_plain, ↓chk, justK, ↓oneK, ↓pureK, envOf, ↓thenA_normal, ↓stepEv, opnd, Pg.look, binK, intOp, Bool.false_eq_true, implies_true, true_and, and_true, valV, heapV, footV, binV, intV, alives, closeQ_nil, diagQ_zero, ofV, ofLeaf, retA, resK, tupA, subA, subQ, ptrsE, frzO, subF, subG, pickOf, frzE, frzC, frz0, frzH, Pg.freeze, List.foldl_nil, subOs, subEv, subV_succ, subM, ↓callT, callC, callV, callH, normArgs, normA, resL, res8_eq, res_succ, resM, shiftR, shift1, reduceCtorEq, Nat.reduceEqDiff, List.append_nil, List.length_nil, List.map_cons, List.map_nil, ite_true, ite_false, ne_eq, not_false_eq_true, and_self, pickOK_nil, cInt_dec, lOne_dec, List.contains_nil, List.range'_zero, C1by_ns, C1by_pre, C1by_r, C1by_H, optP_some, optV_some, optH_some, Int.toNat_natCast, C1by_it, regH_none, isNext, nextF, nextG, selC_false, ↓msel, muC, ↓callP, C1by_mu, tk3, tk108, kLen, w1, e, w2]
  exact ⟨⟨by omega, by omega⟩, by omega⟩
def kPow2 : C1 := C1.by [.id] (lOne (cInt .i64)) (fun d => 0 ≤ d ∧ d < 64) (fun d => .int .u64 (2 ^ Sort.bitsLen d.toNat : Nat)) (fun _ => [])
theorem ok_pow2 : C1OK Try.prog 81 kPow2 := C1OK.by (by kernel_rfl) (fun d h => by
  obtain ⟨h1, h2⟩ := h
  have := calls_pow2 d.toNat (by omega)
  rw [show ((d.toNat : Nat) : Int) = d by omega] at this
  exact this) (fun _ => rfl) (fun _ => rfl)

/-! ### Three are put elsewhere -/
def brkL (a b : Nat) (l : List UInt8) : List UInt8 := (Sort.breakPatterns l.toArray a b).toList
def othr (r md n : Nat) : Nat := if r &&& (md - 1) ≥ n then (r &&& (md - 1)) - n else r &&& (md - 1)
def brkS (a n md idx : Nat) : Nat → UInt64 × List UInt8 → UInt64 × List UInt8
  | 0, s => s
  | k + 1, s => brkS a n md (idx + 1) k (Sort.xorNext s.1, swpL s.2 idx (a + othr (Sort.xorNext s.1).toNat md n))
theorem breakStep_eq (a n md idx : Nat) (r : UInt64) (l : List UInt8) : Sort.breakStep a n md (r, l.toArray) idx = (Sort.xorNext r, (swpL l idx (a + othr (Sort.xorNext r).toNat md n)).toArray) := by
  unfold Sort.breakStep othr
  simp only [swpL_eq]
theorem brkL_eq (a n : Nat) (l : List UInt8) (h : 8 ≤ n) : brkL a (a + n) l = (brkS a n (2 ^ Sort.bitsLen n) (a + n / 4 * 2 - 1) 3 (UInt64.ofNat n, l)).2 := by
  unfold brkL Sort.breakPatterns
  simp only [Nat.add_sub_cancel_left, if_pos (show n ≥ 8 by omega), Nat.one_shiftLeft, breakStep_eq]
  rfl
theorem othr_lt {r n : Nat} (h : 0 < n) : othr r (2 ^ Sort.bitsLen n) n < n := by
  have h1 := Sort.two_pow_bitsLen_le h
  have h2 := Sort.lt_two_pow_bitsLen n
  have h3 : r &&& (2 ^ Sort.bitsLen n - 1) ≤ 2 ^ Sort.bitsLen n - 1 := Nat.and_le_right
  unfold othr
  split <;> omega

set_option maxRecDepth 20000 in
set_option maxHeartbeats 4000000 in
theorem calls_brk (l : List UInt8) (a b : Nat) (h8 : a + 8 ≤ b) (h50 : b < a + 50) (hb : b ≤ l.length) (hl : l.length ≤ 1000) :
    CallsR Try.prog 71 [.own 0 1 l.length, .int .i64 a, .int .i64 b] [.arr 5 1 (ofBytes l)] (.tuple []) [.arr 5 1 (ofBytes (brkL a b l))] := by
  refine callsR_of (mrg := true) (dyn := []) (CtrOK.cons ok_Next (CtrOK.cons ok_pow2 (CtrOK.nil _))) mixed Try.func71 rfl (by simp [Try.ntmps71]) (by kernel_rfl) ?_
  rw [show Try.f71.results.toList = [] from by kernel_rfl]
  obtain ⟨n, rfl⟩ : ∃ n, b = a + n := ⟨b - a, by omega⟩
  rw [brkL_eq a n l (by omega)]
  obtain ⟨q, hq⟩ : ∃ q, q = n / 4 := ⟨_, rfl⟩
  rw [← hq]
  have hot := @othr_lt (h := show 0 < n by omega)
  have hk : Sort.bitsLen n ≤ 10 := (Sort.bitsLen_le_iff n 10).2 (by omega)
  have hp : 2 ^ Sort.bitsLen n ≤ 2 ^ 10 := Nat.pow_le_pow_right (by omega) hk
  have hp1 := Sort.lt_two_pow_bitsLen n
  obtain ⟨p, hpe⟩ : ∃ p, p = 2 ^ Sort.bitsLen n := ⟨_, rfl⟩
  rw [← hpe] at hp hp1 hot ⊢
  have w0 : IntKind.i64.wrap (((a + n : Nat) : Int) - (a : Int)) = (n : Int) := by rw [wrap64 (by omega) (by omega)]; omega
  have w1 : IntKind.i64.wrap ((n : Int).tdiv 4) = (q : Int) := by
    rw [show (n : Int).tdiv 4 = ((n / 4 : Nat) : Int) from rfl, wrap64 (by omega) (by omega), hq]
  have w2 : IntKind.i64.wrap ((q : Int) * 2) = ((q * 2 : Nat) : Int) := by rw [wrap64 (by omega) (by omega)]; omega
  have w3 : IntKind.i64.wrap ((a : Int) + ((q * 2 : Nat) : Int)) = ((a + q * 2 : Nat) : Int) := by rw [wrap64 (by omega) (by omega)]; omega
  have w4 : IntKind.i64.wrap (((a + q * 2 : Nat) : Int) - 1) = ((a + q * 2 - 1 : Nat) : Int) := by rw [wrap64 (by omega) (by omega)]; omega
  have w5 : IntKind.i64.wrap (((a + q * 2 : Nat) : Int) + 1) = ((a + q * 2 + 1 : Nat) : Int) := by rw [wrap64 (by omega) (by omega)]; omega
  have w6 : IntKind.u64.wrap (n : Int) = (n : Int) := by rw [IntKind.wrap_u64]; omega
  have w7 : IntKind.u64.wrap ((p : Int) - 1) = ((p - 1 : Nat) : Int) := by rw [IntKind.wrap_u64]; omega
  have c8 : decide ((n : Int) ≥ 8) = true := decide_eq_true (by omega)
  simp (maxSteps := 4000000) only [↓wpA_H, ↓wpH_seq, ↓wpH_cond, ↓wpH_block, ↓wpH_loop, ↓wpH_region, ↓iselH_true, bselH_false, runH_nil, runH_cons, gw, gselH_plain, cselH_bool, ↓chk, justK, noW, ↓oneK, ↓pureK, ↓heapK, envOf, ↓thenA_normal, ↓stepEv, opnd, Pg.look, binK, intOp, Bool.false_eq_true, false_implies, implies_true, true_and, and_true, valV, heapV, footV, binV, intV, Nat.reduceAdd, ofV, ofLeaf, Pg.freeze, List.foldl_nil, ↓callT, callC, callV, callH, normArgs, normA, resL, res8_eq, res_succ, resM, shiftR, shift1, AV.cells, TK.cells, AV.definite, AV.leaf, AV.leafy, putCells, List.getElem?_cons_succ, List.getElem?_cons_zero, reduceCtorEq, Nat.reduceEqDiff, Nat.reduceAdd, List.nil_append, List.append_nil, List.cons_append, List.length_cons, List.length_nil, List.map_cons, List.map_nil, List.set_cons_zero, List.set_cons_succ, Nat.zero_add, ite_true, ite_false, Prod.mk.injEq, ne_eq, not_false_eq_true, List.all_cons, List.all_nil, Bool.and_self, and_self, cInt_dec, lOne_dec, List.contains_nil, List.range'_zero, C1by_ns, C1by_pre, C1by_r, C1by_H, optP_some, optV_some, optH_some, Int.toNat_natCast, List.getD_cons_zero, Nat.le_refl, Nat.zero_lt_succ, C1by_it, regH_none, isNext, nextF, nextG, selC_false, ↓msel, muC, ↓callP, C1by_mu, C1mby_mu, tk3, tk121, tz121, dz121, kNext, kPow2, w0, w1, w2, w3, w4, w6, c8, ← hpe]
  refine ⟨⟨by omega, by omega⟩, by decide, ?_⟩
  have hr0 : (UInt64.ofNat n).toNat = n := by simp; omega
  refine loopH_intro (α := Nat × Nat × UInt64 × List UInt8) (fun x => ([(9, .int .i64 x.1), (8, .int .u64 p), (7, .ptr 1 1 1 0 0), (6, .int .i64 n), (0, .own 0 1 l.length), (1, .int .i64 a)], [.arr 5 1 (ofBytes x.2.2.2), .arr 121 1 [.int .u64 x.2.2.1.toNat]]))
    (fun x => x.2.2.2.length = l.length ∧ x.1 + x.2.1 = a + q * 2 + 2 ∧ x.2.1 ≤ 3 ∧ (brkS a n p x.1 x.2.1 x.2.2).2 = (brkS a n p (a + q * 2 - 1) 3 (UInt64.ofNat n, l)).2) (fun x => x.2.1) (a + q * 2 - 1, 3, UInt64.ofNat n, l) ⟨rfl, by show a + q * 2 - 1 + 3 = _; omega, Nat.le_refl _, rfl⟩ ?_ ?_
  · simp (maxSteps := 4000000) only [Pg.look, true_and, and_true, alives, aliveO, nxtQ, hdS, pairsA, frzA, closeQ_nil, closeQ_succ, diagQ_zero, diagQ_succ, subA, subQ, ptrsE, pairsO, frzO, subF, subG, pickOf, assocN, pairsE, pairsC, pairs0, frzE, frzC, frz0, frzH, Pg.freeze, List.foldl_nil, subOs, subO, subEv, subV_succ, subM, AV.cells, AV.pureLeaf, AV.pureB, List.getElem?_cons_succ, List.getElem?_cons_zero, reduceCtorEq, Nat.reduceEqDiff, List.nil_append, List.append_nil, List.cons_append, Nat.zero_add, ite_true, ite_false, List.all_cons, List.all_nil, Bool.and_self, and_self, pureB_bytes, Nat.lt_irrefl, Nat.zero_lt_succ, hr0]
    refine ⟨by decide, subX_eq rfl (pureB_bytes _), subX_one ?_⟩
    simp (maxSteps := 4000000) only [subV_succ, subM, subL, AV.cells, and_self]
  rintro ⟨idx, k, r, m⟩ ⟨hm, hi, hk3, hB⟩
  have hm : m.length = l.length := hm
  have hi : idx + k = a + q * 2 + 2 := hi
  have hk3 : k ≤ 3 := hk3
  have hB : (brkS a n p idx k (r, m)).2 = (brkS a n p (a + q * 2 - 1) 3 (UInt64.ofNat n, l)).2 := hB
  have hr := r.toNat_lt
  have hr' := (Sort.xorNext r).toNat_lt
  have hx : Sort.xorNextN r.toNat = (Sort.xorNext r).toNat := (Sort.xorNext_toNat r).symm
  cases k with
  | zero =>
    have hc : decide ((idx : Int) ≤ ((a + q * 2 + 1 : Nat) : Int)) = false := decide_eq_false (by omega)
    simp (maxSteps := 4000000) only [↓wpA_H, ↓wpH_exit, ↓wpH_seq, ↓wpH_cond, ↓wpH_region, ↓iselH_false, bselH_false, runH_nil, runH_cons, gw, gselH_plain, cselH_bool, ↓chk, justK, ↓oneK, ↓pureK, ↓thenA_normal, ↓thenA_exit, ↓blockA_exit, ↓stepEv, opnd, Pg.look, binK, intOp, Bool.false_eq_true, implies_true, true_and, and_true, valV, heapV, footV, binV, intV, alives, aliveO, nxtQ, hdS, pairsA, frzA, closeQ_nil, closeQ_succ, diagQ_zero, diagQ_succ, ofV, ofLeaf, retA, resK, tupA, subA, subQ, ptrsE, pairsO, frzO, subF, subG, pickOf, assocN, pairsE, pairsC, pairsL, frzE, frzC, frzL, frzH, Pg.freeze, List.foldl_nil, subOs, subO, subEv, subV_succ, subM, subL, List.getElem?_cons_zero, reduceCtorEq, Nat.reduceEqDiff, List.nil_append, List.append_nil, List.length_cons, List.length_nil, Nat.zero_add, ite_true, ite_false, ne_eq, and_self, pureB_bytes, List.contains_nil, Nat.zero_lt_succ, regH_none, isNext, nextF, nextG, selC_false, kNext, kPow2, w1, w2, w3, w5, hc]
    refine ⟨by decide, by decide, ?_⟩
    rw [← hB]
    exact subX_eq rfl (pureB_bytes _)
  | succ k =>
    have hc : decide ((idx : Int) ≤ ((a + q * 2 + 1 : Nat) : Int)) = true := decide_eq_true (by omega)
    obtain ⟨r', hr1⟩ : ∃ r', r' = Sort.xorNext r := ⟨_, rfl⟩
    have hB1 : brkS a n p idx (k + 1) (r, m) = brkS a n p (idx + 1) k (r', swpL m idx (a + othr r'.toNat p n)) := by rw [hr1]; rfl
    rw [hB1] at hB
    have hot1 := hot r'.toNat
    rw [← hr1] at hr' hx
    have hle : r'.toNat &&& (p - 1) ≤ p - 1 := Nat.and_le_right
    have x1 := andI r'.toNat (p - 1) hr' (by omega)
    obtain ⟨o, ho⟩ : ∃ o, o = r'.toNat &&& (p - 1) := ⟨_, rfl⟩
    rw [← ho] at x1 hle
    have hoth : othr r'.toNat p n = if o ≥ n then o - n else o := by rw [ho]; rfl
    have w8 : IntKind.i64.wrap (o : Int) = (o : Int) := wrap64 (by omega) (by omega)
    have w9 : IntKind.i64.wrap ((idx : Int) + 1) = ((idx + 1 : Nat) : Int) := by rw [wrap64 (by omega) (by omega)]; omega
    have hsw : ∀ (q : List UInt8) (i j : Nat), (q.set i (q.getD j 0)).set j (q.getD i 0) = swpL q i j := fun _ _ _ => rfl
    by_cases hge : o ≥ n
    · rw [if_pos hge] at hoth
      have hc2 : decide ((o : Int) ≥ (n : Int)) = true := decide_eq_true (by omega)
      have wA : IntKind.i64.wrap ((o : Int) - (n : Int)) = ((o - n : Nat) : Int) := by rw [wrap64 (by omega) (by omega)]; omega
      have wB : IntKind.i64.wrap ((a : Int) + ((o - n : Nat) : Int)) = ((a + (o - n) : Nat) : Int) := by rw [wrap64 (by omega) (by omega)]; omega
      rw [hoth] at hB hot1
      simp (maxSteps := 4000000) only [↓wpA_H, ↓wpH_skip, ↓wpH_seq, ↓wpH_cond, ↓wpH_block, ↓wpH_region, ↓iselH_true, bselH_false, runH_nil, runH_cons, gw, gselH_plain, cselH_bool, ↓chk, justK, noW, ↓oneK, ↓pureK, ↓heapK, ↓thenA_normal, ↓blockA_normal, ↓stepEv, opnd, Pg.look, binK, intOp, Bool.not_false, Bool.false_eq_true, implies_true, true_and, and_true, valV, heapV, footV, binV, intV, alives, aliveO, nxtQ, hdS, pairsA, frzA, closeQ_nil, closeQ_succ, diagQ_zero, diagQ_succ, Nat.reduceAdd, ofV, ofLeaf, subA, subQ, ptrsE, pairsO, frzO, subF, subG, pickOf, assocN, pairsE, pairsC, pairs0, frzE, frzC, frz0, frzH, Pg.freeze, List.foldl_nil, subOs, subO, subEv, subV_succ, subM, ldCells, objAt, ↓callT, normA, res8_eq, res_succ, resM, AV.cells, TK.cells, AV.leaf, AV.leafy, AV.pureLeaf, AV.pureB, putCells, List.getElem?_cons_succ, List.getElem?_cons_zero, Option.getD_some, reduceCtorEq, Nat.reduceEqDiff, Nat.reduceAdd, List.nil_append, List.append_nil, List.cons_append, List.length_cons, List.length_nil, List.map_cons, List.map_nil, List.set_cons_zero, List.set_cons_succ, Nat.zero_add, ite_true, ite_false, Option.some.injEq, Option.isSome_some, Option.isSome_none, ne_eq, not_false_eq_true, List.all_cons, List.all_nil, Bool.and_self, and_self, exists_eq_left', cInt_dec, length_ofBytes, getD_ofBytes, set_ofBytes, List.length_set, pureB_bytes, List.contains_nil, List.range'_zero, Int.toNat_natCast, Nat.sub_self, Nat.le_refl, Nat.lt_irrefl, Nat.zero_lt_succ, regH_none, isNext, nextF, nextG, selC_true, selC_false, pureC, ↓msel, muC, ↓callU, ↓callUV, ↓callUH, ↓callUF, C1by_mu, C1mby_mu, runM_eq, mkM_some, hNil_dec, hCons_dec, app3_some, hP_dec, hP1_some, hP2_some, hB1_some, hB2_arr, hBox_dec, pickF, nodupB, somes, fresh, gids, putO, ren, renL, renO, tk3, tk5, dz5, tk32, tk108, kNext, kPow2, w1, w2, w3, w5, w7, w8, w9, wA, wB, hc, hc2, hx, x1, hsw]
      repeat (first | refine And.intro ⟨by omega, by omega⟩ ?_ | refine And.intro (by omega) ?_)
      refine ⟨(idx + 1, k, r', swpL m idx (a + (o - n))), ⟨by rw [swpL_len]; exact hm, by show idx + 1 + k = _; omega, by show k ≤ 3; omega, hB⟩, by show k < k + 1; omega, by decide, ⟨subX_eq rfl (pureB_bytes _), subX_one ?_⟩, rfl⟩
      simp (maxSteps := 4000000) only [subV_succ, subM, subL, AV.cells, and_self]
    · rw [if_neg hge] at hoth
      have hc2 : decide ((o : Int) ≥ (n : Int)) = false := decide_eq_false (by omega)
      have wB : IntKind.i64.wrap ((a : Int) + (o : Int)) = ((a + o : Nat) : Int) := by rw [wrap64 (by omega) (by omega)]; omega
      rw [hoth] at hB hot1
      simp (maxSteps := 4000000) only [↓wpA_H, ↓wpH_skip, ↓wpH_seq, ↓wpH_cond, ↓wpH_block, ↓wpH_region, ↓iselH_true, ↓iselH_false, bselH_false, runH_nil, runH_cons, gw, gselH_plain, cselH_bool, ↓chk, justK, noW, ↓oneK, ↓pureK, ↓heapK, ↓thenA_normal, ↓blockA_normal, ↓stepEv, opnd, Pg.look, binK, intOp, Bool.not_false, Bool.false_eq_true, implies_true, true_and, and_true, valV, heapV, footV, binV, intV, alives, aliveO, nxtQ, hdS, pairsA, frzA, closeQ_nil, closeQ_succ, diagQ_zero, diagQ_succ, Nat.reduceAdd, ofV, ofLeaf, subA, subQ, ptrsE, pairsO, frzO, subF, subG, pickOf, assocN, pairsE, pairsC, pairs0, frzE, frzC, frz0, frzH, Pg.freeze, List.foldl_nil, subOs, subO, subEv, subV_succ, subM, ldCells, objAt, ↓callT, normA, res8_eq, res_succ, resM, AV.cells, TK.cells, AV.leaf, AV.leafy, AV.pureLeaf, AV.pureB, putCells, List.getElem?_cons_succ, List.getElem?_cons_zero, Option.getD_some, reduceCtorEq, Nat.reduceEqDiff, Nat.reduceAdd, List.nil_append, List.append_nil, List.cons_append, List.length_cons, List.length_nil, List.map_cons, List.map_nil, List.set_cons_zero, List.set_cons_succ, Nat.zero_add, ite_true, ite_false, Option.some.injEq, Option.isSome_some, Option.isSome_none, ne_eq, not_false_eq_true, List.all_cons, List.all_nil, Bool.and_self, and_self, exists_eq_left', cInt_dec, length_ofBytes, getD_ofBytes, set_ofBytes, List.length_set, pureB_bytes, List.contains_nil, List.range'_zero, Int.toNat_natCast, Nat.sub_self, Nat.le_refl, Nat.lt_irrefl, Nat.zero_lt_succ, regH_none, isNext, nextF, nextG, selC_true, selC_false, pureC, ↓msel, muC, ↓callU, ↓callUV, ↓callUH, ↓callUF, C1by_mu, C1mby_mu, runM_eq, mkM_some, hNil_dec, hCons_dec, app3_some, hP_dec, hP1_some, hP2_some, hB1_some, hB2_arr, hBox_dec, pickF, nodupB, somes, fresh, gids, putO, ren, renL, renO, tk3, tk5, dz5, tk32, tk108, kNext, kPow2, w1, w2, w3, w5, w7, w8, w9, wB, hc, hc2, hx, x1, hsw]
      repeat (first | refine And.intro ⟨by omega, by omega⟩ ?_ | refine And.intro (by omega) ?_)
      refine ⟨(idx + 1, k, r', swpL m idx (a + o)), ⟨by rw [swpL_len]; exact hm, by show idx + 1 + k = _; omega, by show k ≤ 3; omega, hB⟩, by show k < k + 1; omega, by decide, ⟨subX_eq rfl (pureB_bytes _), subX_one ?_⟩, rfl⟩
      simp (maxSteps := 4000000) only [subV_succ, subM, subL, AV.cells, and_self]
def kBrk : C1 := C1.mby hAB (fun d => 0 ≤ d.2.1 ∧ d.2.1 + 8 ≤ d.2.2.1 ∧ d.2.2.1 < d.2.1 + 50 ∧ d.2.2.1 ≤ d.1.length ∧ d.1.length ≤ 1000) (fun _ => .tuple []) (fun d => [.arr 5 1 (ofBytes (brkL d.2.1.toNat d.2.2.1.toNat d.1))])
theorem ok_brk : C1OK Try.prog 71 kBrk := C1OK.mby (by kernel_rfl) (fun d h => by
  obtain ⟨l, a, b, u⟩ := d
  obtain ⟨h1, h2, h3, h4, h5⟩ := h
  have h1 : 0 ≤ a := h1
  have h2 : a + 8 ≤ b := h2
  have h3 : b < a + 50 := h3
  have h4 : b ≤ l.length := h4
  have h5 : l.length ≤ 1000 := h5
  have := calls_brk l a.toNat b.toNat (by omega) (by omega) (by omega) h5
  rw [show ((a.toNat : Nat) : Int) = a by omega, show ((b.toNat : Nat) : Int) = b by omega] at this
  exact this) (fun _ _ => Nat.le_refl _)
end Go.Pg
namespace Go.Pg
open Go Go.Proofs

def pdqL (a b lim : Nat) (wb wp : Bool) (l : List UInt8) : List UInt8 := (Sort.pdq ltB l.toArray a b lim wb wp).toList
theorem part_mid {a b pv : Nat} {l : List UInt8} (h1 : a ≤ pv) (h2 : pv < b) (h3 : b ≤ l.length) : a ≤ (part a b pv l).1 ∧ (part a b pv l).1 < b ∧ (part a b pv l).2.2.length = l.length := by
  have h := Sort.partition_holds ltB swoB l.toArray a b pv h1 h2 (by simpa using h3)
  refine ⟨h.1, h.2.1, ?_⟩
  have := h.2.2.1.1
  unfold part
  simpa using this
theorem eqL_mid (a b : Nat) : ∀ (n i j : Nat) (l : List UInt8), j + 1 - i ≤ n → a < i → i ≤ b → j + 1 ≤ b → a < (eqL a i j l).1 ∧ (eqL a i j l).1 ≤ b ∧ (eqL a i j l).2.length = l.length := by
  intro n
  induction n with
  | zero =>
    intro i j l hn h1 h2 h3
    rw [eqL_eq]
    have e : scanU (qU a l) l j i = i := scanU_no (by omega)
    have := scanN_le (qD a l) l i j
    rw [e, if_pos (by omega)]
    exact ⟨h1, h2, rfl⟩
  | succ n ih =>
    intro i j l hn h1 h2 h3
    rw [eqL_eq]
    have e := scanU_ge (qU a l) l j i
    have e2 : scanU (qU a l) l j i ≤ b := by
      by_cases h : i ≤ j + 1
      · have := scanU_le (qU a l) l j _ i (Nat.le_refl _) h; omega
      · rw [scanU_no (by omega)]; exact h2
    have e3 := scanN_le (qD a l) l (scanU (qU a l) l j i) j
    split
    · exact ⟨by show a < scanU (qU a l) l j i; omega, e2, rfl⟩
    · have := ih (scanU (qU a l) l j i + 1) (scanN (qD a l) l (scanU (qU a l) l j i) j - 1) (swpL l (scanU (qU a l) l j i) (scanN (qD a l) l (scanU (qU a l) l j i) j)) (by omega) (by omega) (by omega) (by omega)
      rw [swpL_len] at this
      exact this
theorem partE_mid {a b pv : Nat} {l : List UInt8} (h1 : a < b) : a < (partE a b pv l).1 ∧ (partE a b pv l).1 ≤ b ∧ (partE a b pv l).2.length = l.length := by
  have := eqL_mid a b _ (a + 1) (b - 1) (swpL l a pv) (Nat.le_refl _) (by omega) (by omega) (by omega)
  rw [swpL_len] at this
  exact this
theorem brkL_len (a b : Nat) (l : List UInt8) (h1 : a ≤ b) (h2 : b ≤ l.length) : (brkL a b l).length = l.length := by
  have := (Sort.breakPatterns_holds l.toArray a b h1 (by simpa using h2)).1
  unfold brkL
  simpa using this

/-- One round. -/
theorem pdqL_step (a b lim : Nat) (wb wp : Bool) (l : List UInt8) (h12 : a + 12 < b) (h50 : b < a + 50) (hb : b ≤ l.length) (hlim : lim ≠ 0) (l1 : List UInt8) (lim1 pv : Nat)
    (hl1 : l1 = if wb = true then l else brkL a b l) (hlim1 : lim1 = if wb = true then lim else lim - 1) (hpv : pv = (chP a b l1).1) :
    pdqL a b lim wb wp l =
      if (wb && wp && decide ((chP a b l1).2 = 0) && decide (scanS l1 b (a + 1) = b)) = true then l1
      else if (decide (a > 0) && !ltB (l1.getD (a - 1) 0) (l1.getD pv 0)) = true then pdqL (partE a b pv l1).1 b lim1 wb wp (partE a b pv l1).2
      else if (part a b pv l1).1 - a < b - (part a b pv l1).1 then
        pdqL ((part a b pv l1).1 + 1) b lim1 (decide ((part a b pv l1).1 - a ≥ (b - a) / 8)) (part a b pv l1).2.1 (pdqL a (part a b pv l1).1 lim1 true true (part a b pv l1).2.2)
      else pdqL a (part a b pv l1).1 lim1 (decide (b - (part a b pv l1).1 ≥ (b - a) / 8)) (part a b pv l1).2.1 (pdqL ((part a b pv l1).1 + 1) b lim1 true true (part a b pv l1).2.2) := by
  have hd1 : (if (!wb) = true then Sort.breakPatterns l.toArray a b else l.toArray) = l1.toArray := by
    rw [hl1]
    cases wb
    · simp [brkL]
    · simp
  have hlim2 : (if (!wb) = true then lim - 1 else lim) = lim1 := by
    rw [hlim1]
    cases wb <;> rfl
  have hlen : l1.length = l.length := by
    rw [hl1]
    split
    · rfl
    · exact brkL_len a b l (by omega) hb
  have hm := chP_mem l1 (show a + 8 ≤ b by omega)
  have hpm := part_mid (l := l1) (show a ≤ pv by rw [hpv]; exact hm.1) (show pv < b by rw [hpv]; exact hm.2.1) (by omega)
  have hem := partE_mid (pv := pv) (l := l1) (show a < b by omega)
  unfold pdqL
  rw [Sort.pdq, if_neg (by omega), if_neg hlim]
  simp only [hd1, hlim2, chP_eq l1 (show a + 8 ≤ b by omega) h50, ← hpv]
  have hnd : ¬ (if (chP a b l1).2 = 0 then Sort.Hint.increasing else Sort.Hint.unknown) = Sort.Hint.decreasing := by split <;> simp
  simp only [if_neg hnd, partialS l1 a b (by omega)]
  have hinc : decide ((if (chP a b l1).2 = 0 then Sort.Hint.increasing else Sort.Hint.unknown) = Sort.Hint.increasing) = decide ((chP a b l1).2 = 0) := by
    split <;> simp_all
  have hX : ∀ c : Bool, (if c = true then (l1.toArray, decide (scanS l1 b (a + 1) = b)) else (l1.toArray, false)) = (l1.toArray, c && decide (scanS l1 b (a + 1) = b)) := fun c => by cases c <;> rfl
  have hE : Sort.partitionEqual ltB l1.toArray a b pv = ((partE a b pv l1).1, (partE a b pv l1).2.toArray) := by
    unfold partE eqL Sort.partitionEqual
    rw [swpL_eq, Array.toArray_toList]
  have hP : Sort.partition ltB l1.toArray a b pv = ((part a b pv l1).1, (part a b pv l1).2.1, (part a b pv l1).2.2.toArray) := by
    unfold part
    rw [Array.toArray_toList]
  simp only [hinc, hX, hE, hP, getA, dif_pos (show a < (partE a b pv l1).1 ∧ (partE a b pv l1).1 ≤ b from ⟨hem.1, hem.2.1⟩), dif_pos (show a ≤ (part a b pv l1).1 ∧ (part a b pv l1).1 < b from ⟨hpm.1, hpm.2.1⟩)]
  split
  · rfl
  · split
    · rfl
    · split
      · rw [Array.toArray_toList]
      · rw [Array.toArray_toList]
theorem pdqL_ins (a b lim : Nat) (wb wp : Bool) (l : List UInt8) (h : b - a ≤ 12) : pdqL a b lim wb wp l = insS a b l := by
  unfold pdqL
  rw [Sort.pdq, if_pos h, insS_eq]
theorem pdqL_heap (a b : Nat) (wb wp : Bool) (l : List UInt8) (h : ¬ b - a ≤ 12) : pdqL a b 0 wb wp l = heapS a b l := by
  unfold pdqL
  rw [Sort.pdq, if_neg h, if_pos rfl]
  rfl
end Go.Pg
