/- Sorting of bytes: lists for what the sort's plain half says of arrays. Sorting of bytes: the heap. Sorting of bytes: heap sort; a row turned round. -/
import Derived.Test.YtohpkjpipihdoaaPgFx2
import Derived.Sort.AssemblyPlain
namespace Go.Pg
open Go Go.Proofs

theorem swpL_eq' (A : Array UInt8) (i j : Nat) : (Sort.swp A i j).toList = swpL A.toList i j := by
  have h := swpL_eq A.toList i j
  rw [Array.toArray_toList] at h
  rw [h]

/-! ### The heap -/
def siftD (hi first root : Nat) (l : List UInt8) : List UInt8 := (Sort.siftDown ltB hi first root l.toArray).toList
def chD (hi first root : Nat) (l : List UInt8) : Nat := if (decide (2 * root + 1 + 1 < hi) && ltB (l.getD (first + (2 * root + 1)) 0) (l.getD (first + (2 * root + 1) + 1) 0)) = true then 2 * root + 1 + 1 else 2 * root + 1
theorem chD_lt {hi first root : Nat} {l : List UInt8} (h : 2 * root + 1 < hi) : chD hi first root l < hi ∧ root < chD hi first root l := by
  unfold chD
  split
  · next h1 => simp only [Bool.and_eq_true, decide_eq_true_eq] at h1; omega
  · omega
theorem siftD_end {hi first root : Nat} {l : List UInt8} (h : hi ≤ 2 * root + 1) : siftD hi first root l = l := by
  unfold siftD
  rw [Sort.siftDown, dif_pos (by omega)]
theorem siftD_go {hi first root : Nat} {l : List UInt8} (h : 2 * root + 1 < hi) : siftD hi first root l =
    if ltB (l.getD (first + root) 0) (l.getD (first + chD hi first root l) 0) = true then siftD hi first (chD hi first root l) (swpL l (first + root) (first + chD hi first root l)) else l := by
  unfold siftD chD
  rw [Sort.siftDown, dif_neg (by omega)]
  simp only [getA, swpL_eq]
  by_cases h1 : (decide (2 * root + 1 + 1 < hi) && ltB (l.getD (first + (2 * root + 1)) 0) (l.getD (first + (2 * root + 1) + 1) 0)) = true
  · have h2 : 2 * root + 2 < hi := by simp only [Bool.and_eq_true, decide_eq_true_eq] at h1; omega
    rw [if_pos h1, if_pos h1]
    by_cases h3 : ltB (l.getD (first + root) 0) (l.getD (first + (2 * root + 1 + 1)) 0) = true
    · rw [if_neg (by rw [show 2 * root + 2 = 2 * root + 1 + 1 from rfl, h3]; simp), dif_pos h2, if_pos h3]
    · rw [if_pos (by rw [show 2 * root + 2 = 2 * root + 1 + 1 from rfl]; simpa using h3), if_neg h3]
  · rw [if_neg h1, if_neg h1]
    by_cases h3 : ltB (l.getD (first + root) 0) (l.getD (first + (2 * root + 1)) 0) = true
    · rw [if_neg (by rw [h3]; simp), if_pos h3]
    · rw [if_pos (by simpa using h3), if_neg h3]
theorem siftD_len (hi first : Nat) : ∀ (n root : Nat) (l : List UInt8), hi - root ≤ n → (siftD hi first root l).length = l.length := by
  intro n
  induction n with
  | zero => intro root l h; rw [siftD_end (by omega)]
  | succ n ih =>
    intro root l h
    by_cases h1 : 2 * root + 1 < hi
    · rw [siftD_go h1]
      split
      · rw [ih _ _ (by have := (chD_lt (first := first) (l := l) h1).2; omega), swpL_len]
      · rfl
    · rw [siftD_end (by omega)]
theorem siftD_length (hi first root : Nat) (l : List UInt8) : (siftD hi first root l).length = l.length := siftD_len hi first _ root l (Nat.le_refl _)

def hBuild (hi first k : Nat) (l : List UInt8) : List UInt8 := (Sort.heapBuild ltB hi first k l.toArray).toList
theorem hBuild_zero (hi first : Nat) (l : List UInt8) : hBuild hi first 0 l = l := rfl
theorem hBuild_succ (hi first k : Nat) (l : List UInt8) : hBuild hi first (k + 1) l = hBuild hi first k (siftD hi first k l) := rfl
def hPop (first k : Nat) (l : List UInt8) : List UInt8 := (Sort.heapPop ltB first k l.toArray).toList
theorem hPop_zero (first : Nat) (l : List UInt8) : hPop first 0 l = l := rfl
theorem hPop_succ (first k : Nat) (l : List UInt8) : hPop first (k + 1) l = hPop first k (siftD k first 0 (swpL l first (first + k))) := by
  unfold hPop siftD
  rw [Sort.heapPop, swpL_eq]
def heapS (a b : Nat) (l : List UInt8) : List UInt8 := (Sort.heapSort ltB l.toArray a b).toList
theorem heapS_eq (a b : Nat) (l : List UInt8) : heapS a b l = hPop a (b - a) (hBuild (b - a) a ((b - a - 1) / 2 + 1) l) := by
  unfold heapS hPop hBuild Sort.heapSort
  rw [Array.toArray_toList]
theorem hBuild_len (hi first : Nat) : ∀ (k : Nat) (l : List UInt8), (hBuild hi first k l).length = l.length := by
  intro k
  induction k with
  | zero => intro l; rfl
  | succ k ih => intro l; rw [hBuild_succ, ih, siftD_length]

/-! ### The scans -/
def scanU (p : UInt8 → Bool) (l : List UInt8) (j i : Nat) : Nat := Sort.scanUp p l.toArray j i
theorem scanU_eq (p : UInt8 → Bool) (l : List UInt8) (j i : Nat) : scanU p l j i = if (decide (i ≤ j) && p (l.getD i 0)) = true then scanU p l j (i + 1) else i := by
  unfold scanU
  rw [Sort.scanUp, getA]
theorem scanU_ge (p : UInt8 → Bool) (l : List UInt8) (j i : Nat) : i ≤ scanU p l j i := Sort.scanUp_ge _ _ _ _
def scanN (p : UInt8 → Bool) (l : List UInt8) (i j : Nat) : Nat := Sort.scanDown p l.toArray i j
theorem scanN_succ (p : UInt8 → Bool) (l : List UInt8) (i j : Nat) : scanN p l i (j + 1) = if (decide (i ≤ j + 1) && p (l.getD (j + 1) 0)) = true then scanN p l i j else j + 1 := by
  unfold scanN
  rw [Sort.scanDown, getA]
theorem scanN_le (p : UInt8 → Bool) (l : List UInt8) (i j : Nat) : scanN p l i j ≤ j := Sort.scanDown_le _ _ _ _
theorem scanU_le (p : UInt8 → Bool) (l : List UInt8) (j : Nat) : ∀ (n i : Nat), j + 1 - i ≤ n → i ≤ j + 1 → scanU p l j i ≤ j + 1 := by
  intro n
  induction n with
  | zero => intro i h1 h2; rw [scanU_eq, if_neg (by simp; omega)]; exact h2
  | succ n ih =>
    intro i h1 h2
    rw [scanU_eq]
    split
    · next h => simp only [Bool.and_eq_true, decide_eq_true_eq] at h; exact ih _ (by omega) (by omega)
    · exact h2
theorem scanN_ge (p : UInt8 → Bool) (l : List UInt8) (i : Nat) : ∀ j, i ≤ j + 1 → i ≤ scanN p l i j + 1 := by
  intro j
  induction j with
  | zero => intro h; exact h
  | succ j ih =>
    intro h
    rw [scanN_succ]
    split
    · next h1 => simp only [Bool.and_eq_true, decide_eq_true_eq] at h1; exact ih (by omega)
    · omega

/-! ### The partitions -/
def partL (a i j : Nat) (l : List UInt8) : Nat × List UInt8 := ((Sort.partLoop ltB a i j l.toArray).1, (Sort.partLoop ltB a i j l.toArray).2.toList)
def pU (a : Nat) (l : List UInt8) : UInt8 → Bool := fun x => ltB x (l.getD a 0)
def pD (a : Nat) (l : List UInt8) : UInt8 → Bool := fun x => !ltB x (l.getD a 0)
theorem partL_eq (a i j : Nat) (l : List UInt8) : partL a i j l =
    if scanU (pU a l) l j i > scanN (pD a l) l (scanU (pU a l) l j i) j then (scanN (pD a l) l (scanU (pU a l) l j i) j, l)
    else partL a (scanU (pU a l) l j i + 1) (scanN (pD a l) l (scanU (pU a l) l j i) j - 1) (swpL l (scanU (pU a l) l j i) (scanN (pD a l) l (scanU (pU a l) l j i) j)) := by
  unfold partL
  rw [Sort.partLoop_eq]
  simp only [getA, swpL_eq]
  show _ = if scanU (pU a l) l j i > scanN (pD a l) l (scanU (pU a l) l j i) j then _ else _
  unfold scanU scanN pU pD
  split <;> rfl
def part (a b pivot : Nat) (l : List UInt8) : Nat × Bool × List UInt8 := ((Sort.partition ltB l.toArray a b pivot).1, (Sort.partition ltB l.toArray a b pivot).2.1, (Sort.partition ltB l.toArray a b pivot).2.2.toList)
theorem part_eq (a b pivot : Nat) (l m : List UInt8) (i j : Nat) (hm : m = swpL l a pivot) (hi : i = scanU (pU a m) m (b - 1) (a + 1)) (hj : j = scanN (pD a m) m i (b - 1)) : part a b pivot l =
    if i > j then (j, true, swpL m j a) else ((partL a (i + 1) (j - 1) (swpL m i j)).1, false, swpL (partL a (i + 1) (j - 1) (swpL m i j)).2 (partL a (i + 1) (j - 1) (swpL m i j)).1 a) := by
  unfold part Sort.partition
  simp only [swpL_eq, getA, ← hm]
  have e1 : Sort.scanUp (fun x => ltB x (m.getD a 0)) m.toArray (b - 1) (a + 1) = i := hi.symm
  rw [e1]
  have e2 : Sort.scanDown (fun x => !ltB x (m.getD a 0)) m.toArray i (b - 1) = j := hj.symm
  rw [e2]
  split
  · rfl
  · unfold partL
    simp only []
    refine Prod.ext rfl (Prod.ext rfl ?_)
    exact swpL_eq' _ _ _

def eqL (a i j : Nat) (l : List UInt8) : Nat × List UInt8 := ((Sort.partEqLoop ltB a i j l.toArray).1, (Sort.partEqLoop ltB a i j l.toArray).2.toList)
def qU (a : Nat) (l : List UInt8) : UInt8 → Bool := fun x => !ltB (l.getD a 0) x
def qD (a : Nat) (l : List UInt8) : UInt8 → Bool := fun x => ltB (l.getD a 0) x
theorem eqL_eq (a i j : Nat) (l : List UInt8) : eqL a i j l =
    if scanU (qU a l) l j i > scanN (qD a l) l (scanU (qU a l) l j i) j then (scanU (qU a l) l j i, l)
    else eqL a (scanU (qU a l) l j i + 1) (scanN (qD a l) l (scanU (qU a l) l j i) j - 1) (swpL l (scanU (qU a l) l j i) (scanN (qD a l) l (scanU (qU a l) l j i) j)) := by
  unfold eqL
  rw [Sort.partEqLoop_eq]
  simp only [getA, swpL_eq]
  show _ = if scanU (qU a l) l j i > scanN (qD a l) l (scanU (qU a l) l j i) j then _ else _
  unfold scanU scanN qU qD
  split <;> rfl
def partE (a b pivot : Nat) (l : List UInt8) : Nat × List UInt8 := eqL a (a + 1) (b - 1) (swpL l a pivot)

/-! ### Sorted already? -/
def scanS (l : List UInt8) (b i : Nat) : Nat := Sort.scanSorted ltB l.toArray b i
theorem scanS_eq (l : List UInt8) (b i : Nat) : scanS l b i = if (decide (i < b) && !ltB (l.getD i 0) (l.getD (i - 1) 0)) = true then scanS l b (i + 1) else i := by
  unfold scanS
  rw [Sort.scanSorted, getA, getA]
theorem partialS (l : List UInt8) (a b : Nat) (h : b - a < 50) : Sort.partialInsertionSort ltB l.toArray a b = (l.toArray, decide (scanS l b (a + 1) = b)) := by
  unfold Sort.partialInsertionSort
  rw [Sort.partialIns_succ, if_pos h]
  show (if scanS l b (a + 1) = b then _ else _) = _
  split <;> simp_all
theorem scanS_le (l : List UInt8) (b : Nat) : ∀ (n i : Nat), b - i ≤ n → i ≤ b → scanS l b i ≤ b := by
  intro n
  induction n with
  | zero => intro i h1 h2; rw [scanS_eq, if_neg (by simp; omega)]; exact h2
  | succ n ih =>
    intro i h1 h2
    rw [scanS_eq]
    split
    · next h => simp only [Bool.and_eq_true, decide_eq_true_eq] at h; exact ih _ (by omega) (by omega)
    · exact h2

/-! ### The pivot -/
def ord2 (l : List UInt8) (a b s : Nat) : Nat × Nat × Nat := Sort.order2 ltB l.toArray a b s
theorem ord2_eq (l : List UInt8) (a b s : Nat) : ord2 l a b s = if ltB (l.getD b 0) (l.getD a 0) = true then (b, a, s + 1) else (a, b, s) := by
  unfold ord2 Sort.order2
  rw [getA, getA]
def med (l : List UInt8) (a b c s : Nat) : Nat × Nat := Sort.median ltB l.toArray a b c s
theorem med_eq (l : List UInt8) (a b c s : Nat) : med l a b c s = ((ord2 l (ord2 l a b s).1 (ord2 l (ord2 l a b s).2.1 c (ord2 l a b s).2.2).1 (ord2 l (ord2 l a b s).2.1 c (ord2 l a b s).2.2).2.2).2.1, (ord2 l (ord2 l a b s).1 (ord2 l (ord2 l a b s).2.1 c (ord2 l a b s).2.2).1 (ord2 l (ord2 l a b s).2.1 c (ord2 l a b s).2.2).2.2).2.2) := rfl

/-! ### Turned round -/
def revL (i j : Nat) (l : List UInt8) : List UInt8 := (Sort.reverseLoop i j l.toArray).toList
theorem revL_eq (i j : Nat) (l : List UInt8) : revL i j l = if i < j then revL (i + 1) (j - 1) (swpL l i j) else l := by
  unfold revL
  rw [Sort.reverseLoop, swpL_eq]
  split <;> rfl
theorem revL_len : ∀ (n i j : Nat) (l : List UInt8), j - i ≤ n → (revL i j l).length = l.length := by
  intro n
  induction n with
  | zero => intro i j l h; rw [revL_eq, if_neg (by omega)]
  | succ n ih =>
    intro i j l h
    rw [revL_eq]
    split
    · rw [ih _ _ _ (by omega), swpL_len]
    · rfl
end Go.Pg
namespace Go.Pg
open Go Go.Proofs

set_option maxRecDepth 20000 in
set_option maxHeartbeats 4000000 in
theorem calls_sift (l : List UInt8) (lo hi first : Nat) (hb : first + hi ≤ l.length) (hlo : lo ≤ 1000) (hl : l.length ≤ 1000) :
    CallsR Try.prog 80 [.own 0 1 l.length, .int .i64 lo, .int .i64 hi, .int .i64 first] [.arr 5 1 (ofBytes l)] (.tuple []) [.arr 5 1 (ofBytes (siftD hi first lo l))] := by
  refine callsR_of (mrg := true) (dyn := []) (CtrOK.cons ok_Less (CtrOK.nil _)) mixed Try.func80 rfl (by simp [Try.ntmps80]) (by kernel_rfl) ?_
  rw [show Try.f80.results.toList = [] from by kernel_rfl]
  simp (maxSteps := 4000000) only [↓wpA_H, ↓wpH_seq, ↓wpH_block, ↓wpH_loop, ↓wpH_region, bselH_false, runH_nil, runH_cons, gw, gselH_plain, ↓chk, justK, ↓oneK, ↓pureK, envOf, ↓thenA_normal, ↓stepEv, opnd, Pg.look, Bool.false_eq_true, implies_true, true_and, valV, heapV, footV, Nat.reduceAdd, reduceCtorEq, Nat.reduceEqDiff, Nat.reduceAdd, List.length_cons, List.length_nil, Nat.zero_add, ite_true, ite_false, and_self, List.contains_nil, regH_none, isNext, nextF, nextG, selC_false, kLess]
  refine loopH_intro (α := Nat × List UInt8) (fun x => ([(8, .int .i64 x.1), (0, .own 0 1 l.length), (2, .int .i64 hi), (3, .int .i64 first)], [.arr 5 1 (ofBytes x.2)])) (fun x => x.2.length = l.length ∧ x.1 ≤ 1000 ∧ siftD hi first x.1 x.2 = siftD hi first lo l) (fun x => hi - x.1) (lo, l) ⟨rfl, hlo, rfl⟩ ?_ ?_
  · simp (maxSteps := 4000000) only [Pg.look, true_and, and_true, alives, aliveO, nxtQ, hdS, pairsA, frzA, closeQ_nil, closeQ_succ, diagQ_zero, diagQ_succ, subA, subQ, ptrsE, pairsO, frzO, subF, subG, pickOf, assocN, pairsE, pairsC, pairs0, frzE, frzC, frz0, frzH, Pg.freeze, List.foldl_nil, subOs, subO, subEv, subV_succ, subM, List.getElem?_cons_zero, reduceCtorEq, Nat.reduceEqDiff, List.nil_append, List.append_nil, ite_true, ite_false, and_self, pureB_bytes, Nat.zero_lt_succ]
    exact ⟨by decide, subX_eq rfl (pureB_bytes _)⟩
  rintro ⟨r, m⟩ ⟨hm, hr, hS⟩
  have hm : m.length = l.length := hm
  have hr : r ≤ 1000 := hr
  have hS : siftD hi first r m = siftD hi first lo l := hS
  have wA : IntKind.i64.wrap (2 * (r : Int)) = ((2 * r : Nat) : Int) := by rw [wrap64 (by omega) (by omega)]; omega
  have wB : IntKind.i64.wrap (((2 * r : Nat) : Int) + 1) = ((2 * r + 1 : Nat) : Int) := by rw [wrap64 (by omega) (by omega)]; omega
  have wC : IntKind.i64.wrap (((2 * r + 1 : Nat) : Int) + 1) = ((2 * r + 1 + 1 : Nat) : Int) := by rw [wrap64 (by omega) (by omega)]; omega
  by_cases h1 : 2 * r + 1 < hi
  · have hc1 : decide (((2 * r + 1 : Nat) : Int) ≥ (hi : Int)) = false := decide_eq_false (by omega)
    have wD : IntKind.i64.wrap ((first : Int) + ((2 * r + 1 : Nat) : Int)) = ((first + (2 * r + 1) : Nat) : Int) := by rw [wrap64 (by omega) (by omega)]; omega
    have wE : IntKind.i64.wrap (((first + (2 * r + 1) : Nat) : Int) + 1) = ((first + (2 * r + 1) + 1 : Nat) : Int) := by rw [wrap64 (by omega) (by omega)]; omega
    have wF : IntKind.i64.wrap ((first : Int) + (r : Int)) = ((first + r : Nat) : Int) := by rw [wrap64 (by omega) (by omega)]; omega
    have hgo := siftD_go (first := first) (l := m) h1
    by_cases h2 : 2 * r + 1 + 1 < hi
    · have hc2 : decide (((2 * r + 1 + 1 : Nat) : Int) < (hi : Int)) = true := decide_eq_true (by omega)
      have wG : IntKind.i64.wrap ((first : Int) + ((2 * r + 1 + 1 : Nat) : Int)) = ((first + (2 * r + 1 + 1) : Nat) : Int) := by rw [wrap64 (by omega) (by omega)]; omega
      cases hL1 : ltB (m.getD (first + (2 * r + 1)) 0) (m.getD (first + (2 * r + 1) + 1) 0) with
      | true =>
        have hch : chD hi first r m = 2 * r + 1 + 1 := if_pos (by rw [hL1]; simp; omega)
        rw [hch] at hgo
        cases hL2 : ltB (m.getD (first + r) 0) (m.getD (first + (2 * r + 1 + 1)) 0) with
        | true =>
          rw [hL2, if_pos rfl] at hgo
          simp (maxSteps := 4000000) only [↓wpA_H, ↓wpH_skip, ↓wpH_seq, ↓wpH_cond, ↓wpH_block, ↓wpH_region, ↓iselH_true, ↓iselH_false, bselH_false, runH_nil, runH_cons, gw, gselH_plain, gselH_if, kselH_1, cselH_bool, gkind, ↓chk, justK, noW, ↓oneK, ↓pureK, ↓heapK, ↓thenA_normal, ↓blockA_normal, ↓stepEv, opnd, Pg.look, binK, intOp, dstOf, Bool.not_true, Bool.false_eq_true, Bool.true_eq_false, implies_true, true_and, and_true, forall_const, pickC, pickV, unc, gof, mux, mergeK, condsL, valV, heapV, footV, binV, intV, alives, aliveO, nxtQ, hdS, pairsA, frzA, closeQ_nil, closeQ_succ, diagQ_zero, diagQ_succ, mergeable, look_stripE, ofV, ofLeaf, sameK, subA, subQ, ptrsE, pairsO, frzO, subF, subG, pickOf, assocN, pairsE, pairsC, pairs0, frzE, frzC, frz0, frzH, Pg.freeze, List.foldl_nil, subOs, subO, subEv, subV_succ, subM, ldCells, objAt, ↓callT, callC, callV, callH, normArgs, normA, resL, res8_eq, res_succ, resM, shiftR, shift1, AV.cells, TK.cells, AV.leaf, AV.leafy, putCells, Op.operands, Call.operands, Array.toList_append, List.getElem?_toArray, List.getElem?_cons_succ, List.getElem?_cons_zero, Option.bind_some, Option.getD_some, reduceCtorEq, Nat.reduceEqDiff, List.nil_append, List.append_nil, List.cons_append, List.length_cons, List.length_nil, List.map_cons, List.map_nil, List.set_cons_zero, Nat.zero_add, ite_true, ite_false, Option.some.injEq, Option.isSome_none, List.all_cons, List.all_nil, Bool.and_self, and_self, exists_eq_left', List.toList_toArray, length_ofBytes, getD_ofBytes, set_ofBytes, cByte_dec, lOne_dec, lCons_dec, dec2_some, List.length_set, pureB_bytes, List.contains_nil, List.range'_zero, C1by_ns, C1by_pre, C1by_r, C1by_H, optP_some, optV_some, optH_some, Int.toNat_natCast, Nat.le_refl, Nat.zero_lt_succ, C1by_it, regH_none, isNext, nextF, nextG, selC_true, selC_false, pureC, ↓msel, muC, ↓callP, C1by_mu, tk5, dz5, tk32, kLess, hc1, hc2, wA, wB, wC, wD, wE, wF, wG, hL1, hL2]
          repeat (first | refine And.intro ⟨by omega, by omega⟩ ?_ | refine And.intro (by omega) ?_)
          exact ⟨(2 * r + 1 + 1, swpL m (first + r) (first + (2 * r + 1 + 1))), ⟨by rw [swpL_len]; exact hm, by omega, by rw [← hS, hgo]⟩, by omega, by decide, subX_eq rfl (pureB_bytes _), rfl⟩
        | false =>
          rw [hL2, if_neg (by simp)] at hgo
          simp (maxSteps := 4000000) only [↓wpA_H, ↓wpH_skip, ↓wpH_ret, ↓wpH_seq, ↓wpH_cond, ↓wpH_block, ↓wpH_region, ↓iselH_true, ↓iselH_false, bselH_false, runH_nil, runH_cons, gw, gselH_plain, gselH_if, kselH_1, cselH_bool, gkind, ↓chk, justK, noW, ↓oneK, ↓pureK, ↓heapK, ↓thenA_normal, ↓thenA_ret, ↓blockA_ret, ↓stepEv, opnd, Pg.look, binK, intOp, dstOf, Bool.not_false, Bool.not_true, Bool.false_eq_true, Bool.true_eq_false, implies_true, true_and, and_true, forall_const, pickC, pickV, unc, gof, mux, mergeK, condsL, valV, heapV, footV, binV, intV, alives, aliveO, nxtQ, hdS, pairsA, frzA, closeQ_nil, closeQ_succ, diagQ_zero, diagQ_succ, mergeable, look_stripE, ofV, ofLeaf, sameK, retA, resK, tupA, subA, subQ, ptrsE, pairsO, frzO, subF, subG, pickOf, assocN, pairsE, pairsC, pairsL, frzE, frzC, frzL, frzH, Pg.freeze, List.foldl_nil, subOs, subO, subEv, subV_succ, subM, subL, ldCells, objAt, ↓callT, callC, callV, callH, normArgs, normA, resL, res8_eq, res_succ, resM, shiftR, shift1, AV.cells, TK.cells, Op.operands, Call.operands, Array.toList_append, List.getElem?_toArray, List.getElem?_cons_succ, List.getElem?_cons_zero, Option.bind_some, Option.getD_some, reduceCtorEq, Nat.reduceEqDiff, List.nil_append, List.append_nil, List.cons_append, List.length_cons, List.length_nil, List.map_cons, List.map_nil, Nat.zero_add, ite_true, ite_false, Option.some.injEq, Option.isSome_none, Bool.and_self, and_self, exists_eq_left', List.toList_toArray, length_ofBytes, getD_ofBytes, cByte_dec, lOne_dec, lCons_dec, dec2_some, pureB_bytes, List.contains_nil, List.range'_zero, C1by_ns, C1by_pre, C1by_r, C1by_H, optP_some, optV_some, optH_some, Int.toNat_natCast, Nat.zero_lt_succ, C1by_it, regH_none, isNext, nextF, nextG, selC_true, selC_false, pureC, ↓msel, muC, ↓callP, C1by_mu, tk5, dz5, tk32, kLess, hc1, hc2, wA, wB, wC, wD, wE, wF, wG, hL1, hL2]
          repeat (first | refine And.intro ⟨by omega, by omega⟩ ?_ | refine And.intro (by omega) ?_)
          rw [← hS, hgo]
          exact ⟨by decide, subX_eq rfl (pureB_bytes _)⟩
      | false =>
        have hch : chD hi first r m = 2 * r + 1 := if_neg (by rw [hL1]; simp)
        rw [hch] at hgo
        cases hL2 : ltB (m.getD (first + r) 0) (m.getD (first + (2 * r + 1)) 0) with
        | true =>
          rw [hL2, if_pos rfl] at hgo
          simp (maxSteps := 4000000) only [↓wpA_H, ↓wpH_skip, ↓wpH_seq, ↓wpH_cond, ↓wpH_block, ↓wpH_region, ↓iselH_false, bselH_false, runH_nil, runH_cons, gw, gselH_plain, gselH_if, kselH_1, cselH_bool, gkind, ↓chk, justK, noW, ↓oneK, ↓pureK, ↓heapK, ↓thenA_normal, ↓blockA_normal, ↓stepEv, opnd, Pg.look, binK, intOp, dstOf, Bool.not_true, Bool.false_eq_true, Bool.true_eq_false, implies_true, true_and, and_true, forall_const, pickC, pickV, unc, gof, mux, mergeK, condsL, valV, heapV, footV, binV, intV, alives, aliveO, nxtQ, hdS, pairsA, frzA, closeQ_nil, closeQ_succ, diagQ_zero, diagQ_succ, mergeable, look_stripE, ofV, ofLeaf, sameK, subA, subQ, ptrsE, pairsO, frzO, subF, subG, pickOf, assocN, pairsE, pairsC, pairs0, frzE, frzC, frz0, frzH, Pg.freeze, List.foldl_nil, subOs, subO, subEv, subV_succ, subM, ldCells, objAt, ↓callT, callC, callV, callH, normArgs, normA, resL, res8_eq, res_succ, resM, shiftR, shift1, AV.cells, TK.cells, AV.leaf, AV.leafy, putCells, Op.operands, Call.operands, Array.toList_append, List.getElem?_toArray, List.getElem?_cons_succ, List.getElem?_cons_zero, Option.bind_some, Option.getD_some, reduceCtorEq, Nat.reduceEqDiff, List.nil_append, List.append_nil, List.cons_append, List.length_cons, List.length_nil, List.map_cons, List.map_nil, List.set_cons_zero, Nat.zero_add, ite_true, ite_false, Option.some.injEq, Option.isSome_none, List.all_cons, List.all_nil, Bool.and_self, and_self, exists_eq_left', List.toList_toArray, length_ofBytes, getD_ofBytes, set_ofBytes, cByte_dec, lOne_dec, lCons_dec, dec2_some, List.length_set, pureB_bytes, List.contains_nil, List.range'_zero, C1by_ns, C1by_pre, C1by_r, C1by_H, optP_some, optV_some, optH_some, Int.toNat_natCast, Nat.le_refl, Nat.zero_lt_succ, C1by_it, regH_none, isNext, nextF, nextG, selC_true, selC_false, pureC, ↓msel, muC, ↓callP, C1by_mu, tk5, dz5, tk32, kLess, hc1, hc2, wA, wB, wC, wD, wE, wF, hL1, hL2]
          repeat (first | refine And.intro ⟨by omega, by omega⟩ ?_ | refine And.intro (by omega) ?_)
          exact ⟨(2 * r + 1, swpL m (first + r) (first + (2 * r + 1))), ⟨by rw [swpL_len]; exact hm, by omega, by rw [← hS, hgo]⟩, by omega, by decide, subX_eq rfl (pureB_bytes _), rfl⟩
        | false =>
          rw [hL2, if_neg (by simp)] at hgo
          simp (maxSteps := 4000000) only [↓wpA_H, ↓wpH_skip, ↓wpH_ret, ↓wpH_seq, ↓wpH_cond, ↓wpH_block, ↓wpH_region, ↓iselH_true, ↓iselH_false, bselH_false, runH_nil, runH_cons, gw, gselH_plain, gselH_if, kselH_1, cselH_bool, gkind, ↓chk, justK, noW, ↓oneK, ↓pureK, ↓heapK, ↓thenA_normal, ↓thenA_ret, ↓blockA_ret, ↓stepEv, opnd, Pg.look, binK, intOp, dstOf, Bool.not_false, Bool.not_true, Bool.false_eq_true, Bool.true_eq_false, implies_true, true_and, and_true, forall_const, pickC, pickV, unc, gof, mux, mergeK, condsL, valV, heapV, footV, binV, intV, alives, aliveO, nxtQ, hdS, pairsA, frzA, closeQ_nil, closeQ_succ, diagQ_zero, diagQ_succ, mergeable, look_stripE, ofV, ofLeaf, sameK, retA, resK, tupA, subA, subQ, ptrsE, pairsO, frzO, subF, subG, pickOf, assocN, pairsE, pairsC, pairsL, frzE, frzC, frzL, frzH, Pg.freeze, List.foldl_nil, subOs, subO, subEv, subV_succ, subM, subL, ldCells, objAt, ↓callT, callC, callV, callH, normArgs, normA, resL, res8_eq, res_succ, resM, shiftR, shift1, AV.cells, TK.cells, Op.operands, Call.operands, Array.toList_append, List.getElem?_toArray, List.getElem?_cons_succ, List.getElem?_cons_zero, Option.bind_some, Option.getD_some, reduceCtorEq, Nat.reduceEqDiff, List.nil_append, List.append_nil, List.cons_append, List.length_cons, List.length_nil, List.map_cons, List.map_nil, Nat.zero_add, ite_true, ite_false, Option.some.injEq, Option.isSome_none, Bool.and_self, and_self, exists_eq_left', List.toList_toArray, length_ofBytes, getD_ofBytes, cByte_dec, lOne_dec, lCons_dec, dec2_some, pureB_bytes, List.contains_nil, List.range'_zero, C1by_ns, C1by_pre, C1by_r, C1by_H, optP_some, optV_some, optH_some, Int.toNat_natCast, Nat.zero_lt_succ, C1by_it, regH_none, isNext, nextF, nextG, selC_true, selC_false, pureC, ↓msel, muC, ↓callP, C1by_mu, tk5, dz5, tk32, kLess, hc1, hc2, wA, wB, wC, wD, wE, wF, hL1, hL2]
          repeat (first | refine And.intro ⟨by omega, by omega⟩ ?_ | refine And.intro (by omega) ?_)
          rw [← hS, hgo]
          exact ⟨by decide, subX_eq rfl (pureB_bytes _)⟩
    · have hc2 : decide (((2 * r + 1 + 1 : Nat) : Int) < (hi : Int)) = false := decide_eq_false (by omega)
      have hch : chD hi first r m = 2 * r + 1 := if_neg (by simp; omega)
      rw [hch] at hgo
      cases hL2 : ltB (m.getD (first + r) 0) (m.getD (first + (2 * r + 1)) 0) with
      | true =>
        rw [hL2, if_pos rfl] at hgo
        simp (maxSteps := 4000000) only [↓wpA_H, ↓wpH_skip, ↓wpH_seq, ↓wpH_cond, ↓wpH_block, ↓wpH_region, ↓iselH_false, bselH_false, runH_nil, runH_cons, gw, gselH_plain, gselH_if, kselH_1, cselH_bool, gkind, ↓chk, justK, noW, ↓oneK, ↓pureK, ↓heapK, ↓thenA_normal, ↓blockA_normal, ↓stepEv, opnd, Pg.look, binK, intOp, dstOf, Bool.not_false, Bool.not_true, Bool.false_eq_true, false_implies, implies_true, imp_self, true_and, and_true, pickC, pickV, unc, gof, mux, mergeK, condsL, valV, heapV, footV, binV, intV, alives, aliveO, nxtQ, hdS, pairsA, frzA, closeQ_nil, closeQ_succ, diagQ_zero, diagQ_succ, mergeable, look_stripE, ofV, ofLeaf, sameK, subA, subQ, ptrsE, pairsO, frzO, subF, subG, pickOf, assocN, pairsE, pairsC, pairs0, frzE, frzC, frz0, frzH, Pg.freeze, List.foldl_nil, subOs, subO, subEv, subV_succ, subM, ldCells, objAt, ↓callT, callC, callV, callH, normArgs, normA, resL, res8_eq, res_succ, resM, shiftR, shift1, AV.cells, TK.cells, AV.leaf, AV.leafy, putCells, Op.operands, Call.operands, Array.toList_append, List.getElem?_toArray, List.getElem?_cons_succ, List.getElem?_cons_zero, Option.bind_some, Option.getD_some, reduceCtorEq, Nat.reduceEqDiff, List.nil_append, List.append_nil, List.cons_append, List.length_cons, List.length_nil, List.map_cons, List.map_nil, List.set_cons_zero, Nat.zero_add, ite_true, ite_false, Option.some.injEq, Option.isSome_none, List.all_cons, List.all_nil, Bool.and_self, and_self, exists_eq_left', List.toList_toArray, length_ofBytes, getD_ofBytes, set_ofBytes, cByte_dec, lOne_dec, lCons_dec, dec2_some, List.length_set, pureB_bytes, List.contains_nil, List.range'_zero, C1by_ns, C1by_pre, C1by_r, C1by_H, optP_some, optV_some, optH_some, Int.toNat_natCast, Nat.le_refl, Nat.zero_lt_succ, C1by_it, regH_none, isNext, nextF, nextG, selC_true, selC_false, pureC, ↓msel, muC, ↓callP, C1by_mu, tk5, dz5, tk32, kLess, hc1, hc2, wA, wB, wC, wD, wE, wF, hL2]
        repeat (first | refine And.intro ⟨by omega, by omega⟩ ?_ | refine And.intro (by omega) ?_)
        exact ⟨(2 * r + 1, swpL m (first + r) (first + (2 * r + 1))), ⟨by rw [swpL_len]; exact hm, by omega, by rw [← hS, hgo]⟩, by omega, by decide, subX_eq rfl (pureB_bytes _), rfl⟩
      | false =>
        rw [hL2, if_neg (by simp)] at hgo
        simp (maxSteps := 4000000) only [↓wpA_H, ↓wpH_skip, ↓wpH_ret, ↓wpH_seq, ↓wpH_cond, ↓wpH_block, ↓wpH_region, ↓iselH_true, ↓iselH_false, bselH_false, runH_nil, runH_cons, gw, gselH_plain, gselH_if, kselH_1, cselH_bool, gkind, ↓chk, justK, noW, ↓oneK, ↓pureK, ↓heapK, ↓thenA_normal, ↓thenA_ret, ↓blockA_ret, ↓stepEv, opnd, Pg.look, binK, intOp, dstOf, Bool.not_false, Bool.false_eq_true, false_implies, implies_true, imp_self, true_and, and_true, pickC, pickV, unc, gof, mux, mergeK, condsL, valV, heapV, footV, binV, intV, alives, aliveO, nxtQ, hdS, pairsA, frzA, closeQ_nil, closeQ_succ, diagQ_zero, diagQ_succ, mergeable, look_stripE, ofV, ofLeaf, sameK, retA, resK, tupA, subA, subQ, ptrsE, pairsO, frzO, subF, subG, pickOf, assocN, pairsE, pairsC, pairsL, frzE, frzC, frzL, frzH, Pg.freeze, List.foldl_nil, subOs, subO, subEv, subV_succ, subM, subL, ldCells, objAt, ↓callT, callC, callV, callH, normArgs, normA, resL, res8_eq, res_succ, resM, shiftR, shift1, AV.cells, TK.cells, Op.operands, Call.operands, Array.toList_append, List.getElem?_toArray, List.getElem?_cons_succ, List.getElem?_cons_zero, Option.bind_some, Option.getD_some, reduceCtorEq, Nat.reduceEqDiff, List.nil_append, List.append_nil, List.cons_append, List.length_cons, List.length_nil, List.map_cons, List.map_nil, Nat.zero_add, ite_true, ite_false, Option.some.injEq, Option.isSome_none, Bool.and_self, and_self, exists_eq_left', List.toList_toArray, length_ofBytes, getD_ofBytes, cByte_dec, lOne_dec, lCons_dec, dec2_some, pureB_bytes, List.contains_nil, List.range'_zero, C1by_ns, C1by_pre, C1by_r, C1by_H, optP_some, optV_some, optH_some, Int.toNat_natCast, Nat.zero_lt_succ, C1by_it, regH_none, isNext, nextF, nextG, selC_true, selC_false, pureC, ↓msel, muC, ↓callP, C1by_mu, tk5, dz5, tk32, kLess, hc1, hc2, wA, wB, wC, wD, wE, wF, hL2]
        repeat (first | refine And.intro ⟨by omega, by omega⟩ ?_ | refine And.intro (by omega) ?_)
        rw [← hS, hgo]
        exact ⟨by decide, subX_eq rfl (pureB_bytes _)⟩
  · have hc1 : decide (((2 * r + 1 : Nat) : Int) ≥ (hi : Int)) = true := decide_eq_true (by omega)
    simp (maxSteps := 4000000) only [↓wpA_H, ↓wpH_exit, ↓wpH_seq, ↓wpH_cond, ↓wpH_block, ↓wpH_region, ↓iselH_true, bselH_false, runH_nil, runH_cons, gw, gselH_plain, cselH_bool, ↓chk, justK, ↓oneK, ↓pureK, ↓thenA_normal, ↓thenA_exit, ↓blockA_exit, ↓stepEv, opnd, Pg.look, binK, intOp, Bool.false_eq_true, implies_true, true_and, and_true, valV, heapV, footV, binV, intV, alives, aliveO, nxtQ, hdS, pairsA, frzA, closeQ_nil, closeQ_succ, diagQ_zero, diagQ_succ, ofV, ofLeaf, retA, resK, tupA, subA, subQ, ptrsE, pairsO, frzO, subF, subG, pickOf, assocN, pairsE, pairsC, pairsL, pairs0, frzE, frzC, frzL, frz0, frzH, Pg.freeze, List.foldl_nil, subOs, subO, subEv, subV_succ, subM, subL, List.getElem?_cons_zero, reduceCtorEq, Nat.reduceEqDiff, List.nil_append, List.append_nil, List.length_cons, List.length_nil, Nat.zero_add, ite_true, ite_false, and_self, pureB_bytes, List.contains_nil, Nat.zero_lt_succ, regH_none, isNext, nextF, nextG, selC_false, kLess, hc1, wA, wB]
    rw [← hS, siftD_end (by omega)]
    exact ⟨by decide, subX_eq rfl (pureB_bytes _)⟩
def kSift : C1 := C1.mby (hCons hBys (hCons (hP .id (cInt .i64)) (hCons (hP .id (cInt .i64)) (hCons (hP .id (cInt .i64)) hNil)))) (fun d => 0 ≤ d.2.1 ∧ d.2.1 ≤ 1000 ∧ 0 ≤ d.2.2.1 ∧ 0 ≤ d.2.2.2.1 ∧ d.2.2.2.1 + d.2.2.1 ≤ d.1.length ∧ d.1.length ≤ 1000) (fun _ => .tuple []) (fun d => [.arr 5 1 (ofBytes (siftD d.2.2.1.toNat d.2.2.2.1.toNat d.2.1.toNat d.1))])
theorem ok_sift : C1OK Try.prog 80 kSift := C1OK.mby (by kernel_rfl) (fun d h => by
  obtain ⟨l, lo, hi, first, u⟩ := d
  obtain ⟨h1, h2, h3, h4, h5, h6⟩ := h
  have h1 : 0 ≤ lo := h1
  have h2 : lo ≤ 1000 := h2
  have h3 : 0 ≤ hi := h3
  have h4 : 0 ≤ first := h4
  have h5 : first + hi ≤ l.length := h5
  have h6 : l.length ≤ 1000 := h6
  have := calls_sift l lo.toNat hi.toNat first.toNat (by omega) (by omega) h6
  rw [show ((lo.toNat : Nat) : Int) = lo by omega, show ((hi.toNat : Nat) : Int) = hi by omega, show ((first.toNat : Nat) : Int) = first by omega] at this
  exact this) (fun _ _ => Nat.le_refl _)
end Go.Pg
namespace Go.Pg
open Go Go.Proofs

theorem tdiv_half (n : Nat) : ((n : Int) - 1).tdiv 2 = (((n - 1) / 2 : Nat) : Int) := by
  cases n with
  | zero => rfl
  | succ n =>
    rw [show (((n + 1 : Nat) : Int) - 1) = (n : Int) by omega, Nat.add_sub_cancel]
    rfl

set_option maxRecDepth 20000 in
set_option maxHeartbeats 4000000 in
theorem calls_heap (l : List UInt8) (a b : Nat) (hab : a ≤ b) (hb : b ≤ l.length) (hl : l.length ≤ 1000) :
    CallsR Try.prog 70 [.own 0 1 l.length, .int .i64 a, .int .i64 b] [.arr 5 1 (ofBytes l)] (.tuple []) [.arr 5 1 (ofBytes (heapS a b l))] := by
  refine callsR_of (mrg := true) (dyn := []) (CtrOK.cons ok_sift (CtrOK.nil _)) mixed Try.func70 rfl (by simp [Try.ntmps70]) (by kernel_rfl) ?_
  rw [show Try.f70.results.toList = [] from by kernel_rfl]
  obtain ⟨n, rfl⟩ : ∃ n, b = a + n := ⟨b - a, by omega⟩
  have hS := heapS_eq a (a + n) l
  rw [Nat.add_sub_cancel_left] at hS
  have w0 : IntKind.i64.wrap (((a + n : Nat) : Int) - (a : Int)) = (n : Int) := by rw [wrap64 (by omega) (by omega)]; omega
  have w1 : IntKind.i64.wrap ((n : Int) - 1) = (n : Int) - 1 := wrap64 (by omega) (by omega)
  have w2 : IntKind.i64.wrap (((n : Int) - 1).tdiv 2) = (((n - 1) / 2 + 1 : Nat) : Int) - 1 := by rw [tdiv_half, wrap64 (by omega) (by omega)]; omega
  simp (maxSteps := 4000000) only [↓wpA_H, ↓wpH_seq, ↓wpH_block, ↓wpH_loop, ↓wpH_region, bselH_false, runH_nil, runH_cons, gw, gselH_plain, ↓chk, justK, ↓oneK, ↓pureK, envOf, ↓thenA_normal, ↓stepEv, opnd, Pg.look, binK, intOp, Bool.false_eq_true, implies_true, true_and, and_true, valV, heapV, footV, binV, intV, Nat.reduceAdd, ofV, ofLeaf, reduceCtorEq, Nat.reduceEqDiff, Nat.reduceAdd, List.length_cons, List.length_nil, Nat.zero_add, ite_true, ite_false, ne_eq, and_self, List.contains_nil, regH_none, isNext, nextF, nextG, selC_false, kSift, w0, w1, w2]
  refine ⟨by decide, ?_⟩
  refine loopH_intro (α := Nat × List UInt8) (fun x => ([(9, .int .i64 ((x.1 : Int) - 1)), (8, .int .i64 n), (7, .int .i64 0), (6, .int .i64 a), (0, .own 0 1 l.length)], [.arr 5 1 (ofBytes x.2)])) (fun x => x.2.length = l.length ∧ x.1 ≤ (n - 1) / 2 + 1 ∧ hBuild n a x.1 x.2 = hBuild n a ((n - 1) / 2 + 1) l) (fun x => x.1) ((n - 1) / 2 + 1, l) ⟨rfl, Nat.le_refl _, rfl⟩ ?_ ?_
  · simp (maxSteps := 4000000) only [Pg.look, true_and, and_true, alives, aliveO, nxtQ, hdS, pairsA, frzA, closeQ_nil, closeQ_succ, diagQ_zero, diagQ_succ, subA, subQ, ptrsE, pairsO, frzO, subF, subG, pickOf, assocN, pairsE, pairsC, pairs0, frzE, frzC, frz0, frzH, Pg.freeze, List.foldl_nil, subOs, subO, subEv, subV_succ, subM, List.getElem?_cons_zero, reduceCtorEq, Nat.reduceEqDiff, List.nil_append, List.append_nil, ite_true, ite_false, and_self, pureB_bytes, Nat.zero_lt_succ]
    exact ⟨by decide, subX_eq rfl (pureB_bytes _)⟩
  rintro ⟨k, m⟩ ⟨hm, hk, hB⟩
  have hm : m.length = l.length := hm
  have hk : k ≤ (n - 1) / 2 + 1 := hk
  have hB : hBuild n a k m = hBuild n a ((n - 1) / 2 + 1) l := hB
  cases k with
  | succ j =>
    have e1 : (((j + 1 : Nat) : Int) - 1) = (j : Int) := by omega
    have hc : decide ((j : Int) ≥ 0) = true := decide_eq_true (by omega)
    have w3 : IntKind.i64.wrap ((j : Int) - 1) = (j : Int) - 1 := wrap64 (by omega) (by omega)
    simp (maxSteps := 4000000) only [↓wpA_H, ↓wpH_skip, ↓wpH_seq, ↓wpH_cond, ↓wpH_block, ↓wpH_region, ↓iselH_true, bselH_false, runH_nil, runH_cons, gw, gselH_plain, cselH_bool, ↓chk, justK, ↓oneK, ↓pureK, ↓thenA_normal, ↓blockA_normal, ↓stepEv, opnd, Pg.look, binK, intOp, Bool.not_false, Bool.false_eq_true, implies_true, true_and, and_true, valV, heapV, footV, binV, intV, alives, aliveO, nxtQ, hdS, pairsA, frzA, closeQ_nil, closeQ_succ, diagQ_zero, diagQ_succ, ofV, ofLeaf, subA, subQ, ptrsE, pairsO, frzO, subF, subG, pickOf, assocN, pairsE, pairsC, pairs0, frzE, frzC, frz0, frzH, Pg.freeze, List.foldl_nil, subOs, subO, subEv, subV_succ, subM, ↓callT, normA, res8_eq, res_succ, resM, List.getElem?_cons_zero, reduceCtorEq, Nat.reduceEqDiff, List.nil_append, List.append_nil, List.length_cons, List.length_nil, List.map_cons, List.map_nil, List.set_cons_zero, Nat.zero_add, ite_true, ite_false, List.all_cons, List.all_nil, Bool.and_self, and_self, cInt_dec, length_ofBytes, decL_byte, pureB_bytes, List.contains_nil, List.range'_zero, Int.toNat_natCast, Nat.sub_self, Nat.zero_lt_succ, regH_none, isNext, nextF, nextG, selC_false, ↓msel, muC, ↓callU, ↓callUV, ↓callUH, ↓callUF, C1mby_mu, runM_eq, mkM_some, hNil_dec, hCons_dec, app3_some, hP_dec, hP1_some, hP2_some, hO1_some, hO2_arr, hOwn_dec, pickF, nodupB, somes, fresh, gids, putO, ren, renL, renO, kSift, e1, hc, w3, hm, renL_bytes]
    refine ⟨⟨by omega, by omega, by omega, by omega⟩, (j, siftD n a j m), ⟨by rw [siftD_length]; exact hm, by omega, by rw [← hBuild_succ]; exact hB⟩, by omega, by decide, subX_eq rfl (pureB_bytes _), rfl⟩
  | zero =>
    rw [hBuild_zero] at hB
    have hc : decide ((0 : Int) - 1 ≥ 0) = false := rfl
    have hm0 := hm
    simp (maxSteps := 4000000) only [↓wpA_H, ↓wpH_exit, ↓wpH_seq, ↓wpH_cond, ↓wpH_block, ↓wpH_loop, ↓wpH_region, ↓iselH_false, bselH_false, runH_nil, runH_cons, gw, gselH_plain, cselH_bool, ↓chk, justK, ↓oneK, ↓pureK, ↓thenA_normal, ↓thenA_exit, ↓blockA_exit, ↓stepEv, opnd, Pg.look, binK, intOp, Bool.false_eq_true, implies_true, true_and, valV, heapV, footV, binV, intV, ofV, ofLeaf, retA, reduceCtorEq, Nat.reduceEqDiff, List.length_cons, List.length_nil, Nat.zero_add, ite_true, ite_false, and_self, List.contains_nil, Int.cast_ofNat_Int, regH_none, isNext, nextF, nextG, selC_false, kSift, hc, w1]
    refine loopH_intro (α := Nat × List UInt8) (fun x => ([(10, .int .i64 ((x.1 : Int) - 1)), (7, .int .i64 0), (6, .int .i64 a), (0, .own 0 1 l.length)], [.arr 5 1 (ofBytes x.2)])) (fun x => x.2.length = l.length ∧ x.1 ≤ n ∧ hPop a x.1 x.2 = heapS a (a + n) l) (fun x => x.1) (n, m) ⟨hm0, Nat.le_refl _, by rw [hS, ← hB]⟩ ?_ ?_
    · simp (maxSteps := 4000000) only [Pg.look, true_and, and_true, alives, aliveO, nxtQ, hdS, pairsA, frzA, closeQ_nil, closeQ_succ, diagQ_zero, diagQ_succ, subA, subQ, ptrsE, pairsO, frzO, subF, subG, pickOf, assocN, pairsE, pairsC, pairs0, frzE, frzC, frz0, frzH, Pg.freeze, List.foldl_nil, subOs, subO, subEv, subV_succ, subM, List.getElem?_cons_zero, reduceCtorEq, Nat.reduceEqDiff, List.nil_append, List.append_nil, ite_true, ite_false, and_self, pureB_bytes, Nat.zero_lt_succ]
      exact ⟨by decide, subX_eq rfl (pureB_bytes _)⟩
    rintro ⟨i, q⟩ ⟨hq, hi, hP⟩
    have hq : q.length = l.length := hq
    have hi : i ≤ n := hi
    have hP : hPop a i q = heapS a (a + n) l := hP
    cases i with
    | succ j =>
      rw [hPop_succ] at hP
      have e1 : (((j + 1 : Nat) : Int) - 1) = (j : Int) := by omega
      have hc : decide ((j : Int) ≥ 0) = true := decide_eq_true (by omega)
      have w3 : IntKind.i64.wrap ((j : Int) - 1) = (j : Int) - 1 := wrap64 (by omega) (by omega)
      have w4 : IntKind.i64.wrap ((a : Int) + (j : Int)) = ((a + j : Nat) : Int) := by rw [wrap64 (by omega) (by omega)]; omega
      have hsw : (q.set a (q.getD (a + j) 0)).set (a + j) (q.getD a 0) = swpL q a (a + j) := rfl
      simp (maxSteps := 4000000) only [↓wpA_H, ↓wpH_skip, ↓wpH_seq, ↓wpH_cond, ↓wpH_block, ↓wpH_region, ↓iselH_true, bselH_false, runH_nil, runH_cons, gw, gselH_plain, cselH_bool, ↓chk, justK, noW, ↓oneK, ↓pureK, ↓heapK, ↓thenA_normal, ↓blockA_normal, ↓stepEv, opnd, Pg.look, binK, intOp, Bool.not_false, Bool.false_eq_true, implies_true, true_and, and_true, valV, heapV, footV, binV, intV, alives, aliveO, nxtQ, hdS, pairsA, frzA, closeQ_nil, closeQ_succ, diagQ_zero, diagQ_succ, ofV, ofLeaf, subA, subQ, ptrsE, pairsO, frzO, subF, subG, pickOf, assocN, pairsE, pairsC, pairs0, frzE, frzC, frz0, frzH, Pg.freeze, List.foldl_nil, subOs, subO, subEv, subV_succ, subM, ldCells, objAt, ↓callT, normA, res8_eq, res_succ, resM, AV.cells, TK.cells, AV.leaf, AV.leafy, putCells, List.getElem?_cons_zero, Option.getD_some, reduceCtorEq, Nat.reduceEqDiff, List.nil_append, List.append_nil, List.length_cons, List.length_nil, List.map_cons, List.map_nil, List.set_cons_zero, Nat.zero_add, Int.reduceToNat, ite_true, ite_false, Option.some.injEq, Option.isSome_some, List.all_cons, List.all_nil, Bool.and_self, and_self, exists_eq_left', cInt_dec, length_ofBytes, getD_ofBytes, set_ofBytes, Int.reduceLE, decL_byte, List.length_set, pureB_bytes, List.contains_nil, List.range'_zero, Int.toNat_natCast, Nat.sub_self, Nat.le_refl, Nat.zero_lt_succ, regH_none, isNext, nextF, nextG, selC_true, selC_false, pureC, ↓msel, muC, ↓callU, ↓callUV, ↓callUH, ↓callUF, C1mby_mu, runM_eq, mkM_some, hNil_dec, hCons_dec, app3_some, hP_dec, hP1_some, hP2_some, hO1_some, hO2_arr, hOwn_dec, pickF, nodupB, somes, fresh, gids, putO, ren, renL, renO, tk5, dz5, tk32, kSift, e1, hc, w3, w4, hsw, swpL_len, hq, renL_bytes]
      repeat (first | refine And.intro ⟨by omega, by omega⟩ ?_ | refine And.intro ⟨by omega, by omega, by omega⟩ ?_ | refine And.intro ⟨by omega, by omega, by omega, by omega⟩ ?_ | refine And.intro (by omega) ?_)
      exact ⟨(j, siftD j a 0 (swpL q a (a + j))), ⟨by rw [siftD_length, swpL_len]; exact hq, by omega, hP⟩, by omega, by decide, subX_eq rfl (pureB_bytes _), rfl⟩
    | zero =>
      rw [hPop_zero] at hP
      have hc : decide ((0 : Int) - 1 ≥ 0) = false := rfl
      simp (maxSteps := 4000000) only [↓wpA_H, ↓wpH_exit, ↓wpH_seq, ↓wpH_cond, ↓wpH_region, ↓iselH_false, bselH_false, runH_nil, runH_cons, gw, gselH_plain, cselH_bool, ↓chk, justK, ↓oneK, ↓pureK, ↓thenA_normal, ↓thenA_exit, ↓blockA_exit, ↓stepEv, opnd, Pg.look, binK, intOp, Bool.false_eq_true, implies_true, true_and, and_true, valV, heapV, footV, binV, intV, alives, aliveO, nxtQ, hdS, pairsA, frzA, closeQ_nil, closeQ_succ, diagQ_zero, diagQ_succ, ofV, ofLeaf, retA, resK, tupA, subA, subQ, ptrsE, pairsO, frzO, subF, subG, pickOf, assocN, pairsE, pairsC, pairsL, frzE, frzC, frzL, frzH, Pg.freeze, List.foldl_nil, subOs, subO, subEv, subV_succ, subM, subL, List.getElem?_cons_zero, reduceCtorEq, Nat.reduceEqDiff, List.nil_append, List.append_nil, List.length_cons, List.length_nil, Nat.zero_add, ite_true, ite_false, and_self, pureB_bytes, List.contains_nil, Int.cast_ofNat_Int, Nat.zero_lt_succ, regH_none, isNext, nextF, nextG, selC_false, kSift, hc]
      rw [hP]
      exact ⟨by decide, subX_eq rfl (pureB_bytes _)⟩
abbrev hAB : HL (List UInt8 × Int × Int × Unit) := hCons hBys (hCons (hP .id (cInt .i64)) (hCons (hP .id (cInt .i64)) hNil))
def kHeap : C1 := C1.mby hAB (fun d => 0 ≤ d.2.1 ∧ d.2.1 ≤ d.2.2.1 ∧ d.2.2.1 ≤ d.1.length ∧ d.1.length ≤ 1000) (fun _ => .tuple []) (fun d => [.arr 5 1 (ofBytes (heapS d.2.1.toNat d.2.2.1.toNat d.1))])
theorem ok_heap : C1OK Try.prog 70 kHeap := C1OK.mby (by kernel_rfl) (fun d h => by
  obtain ⟨l, a, b, u⟩ := d
  obtain ⟨h1, h2, h3, h4⟩ := h
  have h1 : 0 ≤ a := h1
  have h2 : a ≤ b := h2
  have h3 : b ≤ l.length := h3
  have h4 : l.length ≤ 1000 := h4
  have := calls_heap l a.toNat b.toNat (by omega) (by omega) h4
  rw [show ((a.toNat : Nat) : Int) = a by omega, show ((b.toNat : Nat) : Int) = b by omega] at this
  exact this) (fun _ _ => Nat.le_refl _)
end Go.Pg
