/- The document's marks: set, asked, moved. maps.Clone; the marks are moved. The names of the marks: told in whatever order, sorted. Functions that hand on what others return: slices.Collect, slices.Sorted. Sorting of bytes: few of them. Sorting of bytes: lists for what the sort's plain half says of arrays. -/
import Derived.Test.YtohpkjpipihdoaaPgFx0
import Derived.Shelf.SlMaps.Clone
import Derived.Test.YtohpkjpipihdoaaPgNd
import Derived.WalkKit
import Derived.Sort.AssemblyPlain
namespace Go.Pg
open Go Go.Proofs

def aPs (l : List (Int × Int)) : List AV := l.map fun p => .agg [.int .i64 p.1, .int .i64 p.2]
theorem pureB_aPs (l : List (Int × Int)) : (aPs l).all AV.pureB = true := by simp [aPs, AV.pureB, AV.cells, AV.pureLeaf]
theorem cons_ofBytes (b : UInt8) (l : List UInt8) : .int .u8 b.toNat :: ofBytes l = ofBytes (b :: l) := by simp [ofBytes]
theorem cByte_pure (b : UInt8) : (cByte.enc b).pureB = true := rfl
theorem neL_bytes (b : UInt8) (l : List UInt8) : neL (ofBytes (b :: l)) = true := rfl
theorem one_add' (n : Nat) : 1 + n = n + 1 := Nat.add_comm 1 n

/-- How many names stand ahead of one. -/
def lead (b : UInt8) (n : List UInt8) : Nat := (n.takeWhile (fun c => decide (c.toNat < b.toNat))).length
theorem lead_le (b : UInt8) (n : List UInt8) : lead b n ≤ n.length := (List.takeWhile_sublist _).length_le
theorem lead_lt (b : UInt8) (n : List UInt8) (k : Nat) (h : k < lead b n) : (n.getD k 0).toNat < b.toNat := by
  induction n generalizing k with
  | nil => simp [lead] at h
  | cons c n ih =>
    simp only [lead, List.takeWhile_cons] at h ih
    split at h
    · next hc =>
      cases k with
      | zero => simpa using hc
      | succ k => simpa using ih k (by simpa using h)
    · simp at h
theorem lead_at (b : UInt8) (n : List UInt8) (h : lead b n < n.length) : ¬ (n.getD (lead b n) 0).toNat < b.toNat := by
  induction n with
  | nil => simp at h
  | cons c n ih =>
    simp only [lead, List.takeWhile_cons] at h ih ⊢
    split at h
    · next hc => rw [if_pos hc]; simpa using ih (by simpa using h)
    · next hc => rw [if_neg hc]; simpa using hc

end Go.Pg
namespace Go.Pg
open Go Go.Proofs Go.Shelf

theorem VRs.one {E : Env} {a : AV} {vals : Array Value} (h : VRs E [a] vals) : ∃ u, vals = #[u] ∧ VR E a u := by
  obtain ⟨hs, hv⟩ := h
  match vals, hs with
  | ⟨[u]⟩, _ => exact ⟨u, rfl, hv 0 a rfl⟩

/-! ### The marks move -/
theorem cByte_enc (b : UInt8) : cByte.enc b = .int .u8 b.toNat := rfl
end Go.Pg
namespace Go.Pg
open Go Go.Proofs

def cFm {κ ν : Type} (ck : Cd κ) (cv : Cd ν) : Cd (List (κ × ν)) where
  enc l := .fm (encE ck cv l)
  dec
    | .fm es => decE ck cv es
    | _ => none
  ok v a h := by
    split at h
    · rw [decE_ok _ _ _ _ h]
    · cases h
theorem subX_nls' {H : AH} {F : List Nat} {pick : List (Option Nat)} {i sz : Nat} (h : pick[i]? = some none) : subX H F pick [.nls] [.own i sz 0] := .inr ⟨⟨⟨h, rfl⟩, trivial⟩, trivial⟩
theorem subX_own' {H : AH} {F : List Nat} {pick : List (Option Nat)} {i j sz n n' : Nat} (h : pick[i]? = some (some j)) (hn : n = n') : subX H F pick [.own j sz n] [.own i sz n'] := .inr ⟨⟨⟨h, rfl, hn⟩, trivial⟩, trivial⟩

/-- Keys, each once, in whatever order. -/
def keysR (ks : List UInt8) : List UInt8 → List AV → List UInt8 → Prop := fun t x t' => ∃ c left, x = [.int .u8 c.toNat] ∧ t' = t ++ [c] ∧ (t ++ c :: left).Perm ks
def keysD (ks : List UInt8) : List UInt8 → Prop := fun t => t.Perm ks
def keysT (ks : List UInt8) : Tell := ⟨List UInt8, [], keysR ks, keysD ks⟩

end Go.Pg
namespace Go.Pg
open Go Go.Proofs Go.RowKit

set_option maxHeartbeats 4000000 in
theorem pass_Collect (w : World) (g : Value) (R : Value → World → Prop) (h : Calls Try.prog 65 #[.slice none 0 0, g] w fun e w' => ∃ v, e = .returned v ∧ R v w') :
    Calls Try.prog 59 #[g] w fun e w' => ∃ v, e = .returned v ∧ R v w' := by
  go_enter Try.func59, Try.ntmps59
  go_wp2_with (go_at_call 65; refine h.mono ?_; rintro e w' ⟨v, rfl, hR⟩)
  go_ret
  exact ⟨v, rfl, hR⟩

set_option maxHeartbeats 4000000 in
theorem pass_Sorted (w : World) (g : Value) (R : Value → World → Prop) (h : Calls Try.prog 59 #[g] w fun e w' => ∃ v, e = .returned v ∧ Calls Try.prog 60 #[v] w' fun e w'' => (∃ u, e = .returned u) ∧ R v w'') :
    Calls Try.prog 47 #[g] w fun e w' => ∃ v, e = .returned v ∧ R v w' := by
  go_enter Try.func47, Try.ntmps47
  go_wp2_with (first
    | (go_at_call 59; refine h.mono ?_; rintro e w' ⟨v, rfl, h2⟩)
    | (go_at_call 60; refine h2.mono ?_; rintro e w' ⟨⟨u, rfl⟩, hR⟩))
  go_ret
  exact ⟨v, rfl, hR⟩
end Go.Pg
namespace Go.Pg
open Go Go.Proofs

theorem renL_bytes (g : Nat → Nat) (l : List UInt8) : renL g (ofBytes l) = ofBytes l := renL_pure g _ (pureB_bytes l)

def ltB (x y : UInt8) : Bool := decide (x.toNat < y.toNat)

set_option maxHeartbeats 4000000 in
theorem calls_isNaN (x : UInt8) : CallsR Try.prog 85 [.int .u8 x.toNat] [] (.bool false) [] := by
  refine callsR_of (mrg := true) (dyn := []) (CtrOK.nil _) mixed Try.func85 rfl (by simp [Try.ntmps85]) (by kernel_rfl) ?_
  rw [show Try.f85.results.toList = [.tmp 2] from by kernel_rfl]
  simp (maxSteps := 4000000) only [↓wpA_H, ↓wpH_ret, ↓wpH_seq, ↓wpH_region, bselH_false, runH_nil, runH_cons, gw, gselH_plain, ↓chk, justK, ↓oneK, ↓pureK, envOf, ↓thenA_normal, ↓stepEv, opnd, Pg.look, binK, intOp, Bool.false_eq_true, implies_true, valV, heapV, footV, binV, intV, alives, closeQ_nil, diagQ_zero, ofV, ofLeaf, retA, resK, tupA, subA, subQ, ptrsE, frzO, subF, subG, pickOf, frzE, frzC, frz0, frzH, Pg.freeze, List.foldl_nil, subOs, subEv, subV_succ, subM, reduceCtorEq, Nat.reduceEqDiff, List.append_nil, List.length_nil, ite_true, ite_false, and_self, pickOK_nil, List.contains_nil, bne_self_eq_false, regH_none, isNext, nextF, nextG, selC_false]
def kIsNaN : C1 := C1.by [.id] (lOne cByte) (fun _ => True) (fun _ => .bool false) (fun _ => [])
theorem ok_isNaN : C1OK Try.prog 85 kIsNaN := C1OK.by (by kernel_rfl) (fun d _ => calls_isNaN d) (fun _ => rfl) (fun _ => rfl)

set_option maxHeartbeats 4000000 in
theorem calls_Less (x y : UInt8) : CallsR Try.prog 75 [.int .u8 x.toNat, .int .u8 y.toNat] [] (.bool (ltB x y)) [] := by
  refine callsR_of (mrg := true) (dyn := []) (CtrOK.cons ok_isNaN (CtrOK.nil _)) mixed Try.func75 rfl (by simp [Try.ntmps75]) (by kernel_rfl) ?_
  rw [show Try.f75.results.toList = [.tmp 4] from by kernel_rfl]
  simp (maxSteps := 4000000) only [↓wpA_H, ↓wpH_ret, ↓wpH_seq, ↓wpH_region, bselH_false, runH_nil, runH_cons, gw, gselH_plain, gselH_if, kselH_1, gkind, ↓chk, justK, ↓oneK, ↓pureK, envOf, ↓thenA_normal, ↓stepEv, opnd, Pg.look, binK, intOp, dstOf, Bool.not_false, Bool.false_eq_true, implies_true, imp_self, true_and, and_true, pickC, pickV, unc, gof, mux, mergeK, condsL, valV, heapV, footV, binV, intV, alives, closeQ_nil, diagQ_zero, mergeable, look_stripE, ofV, ofLeaf, sameK, retA, resK, tupA, subA, subQ, ptrsE, frzO, subF, subG, pickOf, frzE, frzC, frz0, frzH, Pg.freeze, List.foldl_nil, subOs, subEv, subV_succ, subM, ↓callT, callC, callV, callH, normArgs, normA, resL, res8_eq, res_succ, resM, shiftR, shift1, Op.operands, Call.operands, Array.toList_append, List.getElem?_toArray, List.getElem?_cons_succ, List.getElem?_cons_zero, Option.bind_some, reduceCtorEq, Nat.reduceEqDiff, List.nil_append, List.append_nil, List.cons_append, List.length_nil, List.map_cons, List.map_nil, Nat.zero_add, ite_true, ite_false, Bool.and_self, and_self, pickOK_nil, List.toList_toArray, cByte_dec, lOne_dec, List.contains_nil, List.range'_zero, C1by_ns, C1by_pre, C1by_r, C1by_H, optP_some, optV_some, optH_some, C1by_it, regH_none, isNext, nextF, nextG, selC_false, ↓msel, muC, ↓callP, C1by_mu, kIsNaN, ltB]
  rw [Bool.eq_iff_iff]; simp
def kLess : C1 := C1.by [.id, .id] (lCons cByte (lOne cByte)) (fun _ => True) (fun d => .bool (ltB d.1 d.2)) (fun _ => [])
theorem ok_Less : C1OK Try.prog 75 kLess := C1OK.by (by kernel_rfl) (fun d _ => calls_Less d.1 d.2) (fun _ => rfl) (fun _ => rfl)

def swpL (l : List UInt8) (i j : Nat) : List UInt8 := (l.set i (l.getD j 0)).set j (l.getD i 0)
theorem swpL_eq (l : List UInt8) (i j : Nat) : Sort.swp l.toArray i j = (swpL l i j).toArray := by
  simp [Sort.swp, swpL, List.getD_eq_getElem?_getD, getElem!_def]
  cases l[j]? <;> cases l[i]? <;> rfl
theorem swpL_len (l : List UInt8) (i j : Nat) : (swpL l i j).length = l.length := by simp [swpL]
theorem getA (l : List UInt8) (i : Nat) : l.toArray[i]! = l.getD i 0 := by
  simp only [getElem!_def, List.getElem?_toArray, List.getD_eq_getElem?_getD]
  cases l[i]? <;> rfl

/-- One is moved down to its place. -/
def insI (a j : Nat) (l : List UInt8) : List UInt8 := (Sort.insInner ltB a j l.toArray).toList
theorem insI_succ (a j : Nat) (l : List UInt8) : insI a (j + 1) l = if (decide (j + 1 > a) && ltB (l.getD (j + 1) 0) (l.getD j 0)) = true then insI a j (swpL l (j + 1) j) else l := by
  unfold insI
  rw [Sort.insInner, getA, getA, swpL_eq]
  split <;> rfl
def insO (a b i : Nat) (l : List UInt8) : List UInt8 := (Sort.insOuter ltB a b i l.toArray).toList
theorem insO_lt {a b i : Nat} (l : List UInt8) (h : i < b) : insO a b i l = insO a b (i + 1) (insI a i l) := by
  unfold insO insI
  rw [Sort.insOuter, if_pos h]
theorem insO_ge {a b i : Nat} (l : List UInt8) (h : b ≤ i) : insO a b i l = l := by
  unfold insO
  rw [Sort.insOuter, if_neg (by omega)]
def insS (a b : Nat) (l : List UInt8) : List UInt8 := insO a b (a + 1) l
theorem insS_eq (a b : Nat) (l : List UInt8) : insS a b l = (Sort.insertionSort ltB l.toArray a b).toList := rfl

set_option maxRecDepth 20000 in
set_option maxHeartbeats 4000000 in
theorem calls_insertion (l : List UInt8) (a b : Nat) (hab : a ≤ b) (hb : b ≤ l.length) (hl : l.length ≤ 1000) :
    CallsR Try.prog 69 [.own 0 1 l.length, .int .i64 a, .int .i64 b] [.arr 5 1 (ofBytes l)] (.tuple []) [.arr 5 1 (ofBytes (insS a b l))] := by
  refine callsR_of (mrg := true) (dyn := []) (CtrOK.cons ok_Less (CtrOK.nil _)) mixed Try.func69 rfl (by simp [Try.ntmps69]) (by kernel_rfl) ?_
  rw [show Try.f69.results.toList = [] from by kernel_rfl]
  have w0 : IntKind.i64.wrap ((a : Int) + 1) = ((a + 1 : Nat) : Int) := by rw [wrap64 (by omega) (by omega)]; omega
  simp (maxSteps := 4000000) only [↓wpA_H, ↓wpH_seq, ↓wpH_block, ↓wpH_loop, ↓wpH_region, bselH_false, runH_nil, runH_cons, gw, gselH_plain, ↓chk, justK, ↓oneK, ↓pureK, envOf, ↓thenA_normal, ↓stepEv, opnd, Pg.look, binK, intOp, Bool.false_eq_true, implies_true, true_and, valV, heapV, footV, binV, intV, Nat.reduceAdd, ofV, ofLeaf, reduceCtorEq, Nat.reduceEqDiff, Nat.reduceAdd, List.length_cons, List.length_nil, Nat.zero_add, ite_true, ite_false, and_self, List.contains_nil, regH_none, isNext, nextF, nextG, selC_false, kLess, w0]
  refine loopH_intro (α := Nat × List UInt8) (fun x => ([(0, .own 0 1 l.length), (1, .int .i64 a), (2, .int .i64 b), (6, .int .i64 x.1)], [.arr 5 1 (ofBytes x.2)])) (fun x => x.2.length = l.length ∧ x.1 ≤ b + 1 ∧ a + 1 ≤ x.1 ∧ insO a b x.1 x.2 = insS a b l) (fun x => b + 1 - x.1) (a + 1, l) ⟨rfl, by omega, Nat.le_refl _, rfl⟩ ?_ ?_
  · simp (maxSteps := 4000000) only [Pg.look, true_and, and_true, alives, aliveO, nxtQ, hdS, pairsA, frzA, closeQ_nil, closeQ_succ, diagQ_zero, diagQ_succ, subA, subQ, ptrsE, pairsO, frzO, subF, subG, pickOf, assocN, pairsE, pairsC, pairs0, frzE, frzC, frz0, frzH, Pg.freeze, List.foldl_nil, subOs, subO, subEv, subV_succ, subM, List.getElem?_cons_zero, reduceCtorEq, Nat.reduceEqDiff, List.nil_append, List.append_nil, ite_true, ite_false, and_self, pureB_bytes, Nat.zero_lt_succ]
    exact ⟨by decide, subX_eq rfl (pureB_bytes _)⟩
  rintro ⟨i, m⟩ ⟨hm, hi, hai, hO⟩
  have hm : m.length = l.length := hm
  have hi : i ≤ b + 1 := hi
  have hai : a + 1 ≤ i := hai
  have hO : insO a b i m = insS a b l := hO
  by_cases hlt : i < b
  · have hc : decide ((i : Int) < (b : Int)) = true := decide_eq_true (by omega)
    simp (maxSteps := 4000000) only [↓wpA_H, ↓wpH_skip, ↓wpH_seq, ↓wpH_cond, ↓wpH_block, ↓wpH_loop, ↓wpH_region, ↓iselH_true, bselH_false, runH_nil, runH_cons, gw, gselH_plain, cselH_bool, ↓chk, justK, ↓oneK, ↓pureK, ↓thenA_normal, ↓stepEv, opnd, Pg.look, binK, intOp, Bool.false_eq_true, implies_true, true_and, valV, heapV, footV, binV, intV, reduceCtorEq, Nat.reduceEqDiff, ite_true, ite_false, and_self, List.contains_nil, regH_none, isNext, nextF, nextG, selC_false, kLess, hc]
    refine loopH_intro (α := Nat × List UInt8) (fun x => ([(0, .own 0 1 l.length), (1, .int .i64 a), (2, .int .i64 b), (6, .int .i64 i), (7, .int .i64 x.1)], [.arr 5 1 (ofBytes x.2)])) (fun x => x.2.length = l.length ∧ x.1 ≤ i ∧ a ≤ x.1 ∧ insI a x.1 x.2 = insI a i m) (fun x => x.1) (i, m) ⟨hm, Nat.le_refl _, by omega, rfl⟩ ?_ ?_
    · simp (maxSteps := 4000000) only [Pg.look, true_and, and_true, alives, aliveO, nxtQ, hdS, pairsA, frzA, closeQ_nil, closeQ_succ, diagQ_zero, diagQ_succ, subA, subQ, ptrsE, pairsO, frzO, subF, subG, pickOf, assocN, pairsE, pairsC, pairs0, frzE, frzC, frz0, frzH, Pg.freeze, List.foldl_nil, subOs, subO, subEv, subV_succ, subM, List.getElem?_cons_zero, reduceCtorEq, Nat.reduceEqDiff, List.nil_append, List.append_nil, ite_true, ite_false, and_self, pureB_bytes, Nat.zero_lt_succ]
      exact ⟨by decide, subX_eq rfl (pureB_bytes _)⟩
    rintro ⟨j, q⟩ ⟨hq, hj, haj, hI⟩
    have hq : q.length = l.length := hq
    have hj : j ≤ i := hj
    have haj : a ≤ j := haj
    have hI : insI a j q = insI a i m := hI
    have hO2 := insO_lt (a := a) m hlt
    by_cases hja : a < j
    · obtain ⟨k, rfl⟩ : ∃ k, j = k + 1 := ⟨j - 1, by omega⟩
      have hcj : decide (((k + 1 : Nat) : Int) > (a : Int)) = true := decide_eq_true (by omega)
      have w1 : IntKind.i64.wrap (((k + 1 : Nat) : Int) - 1) = (k : Int) := by rw [wrap64 (by omega) (by omega)]; omega
      have hst := insI_succ a k q
      rw [show decide (k + 1 > a) = true from decide_eq_true hja, Bool.true_and] at hst
      cases hL : ltB (q.getD (k + 1) 0) (q.getD k 0) with
      | true =>
        rw [hL, if_pos rfl] at hst
        simp (maxSteps := 4000000) only [↓wpA_H, ↓wpH_skip, ↓wpH_seq, ↓wpH_cond, ↓wpH_block, ↓wpH_region, ↓iselH_true, bselH_false, runH_nil, runH_cons, gw, gselH_plain, gselH_if, kselH_1, cselH_bool, gkind, ↓chk, justK, noW, ↓oneK, ↓pureK, ↓heapK, ↓thenA_normal, ↓blockA_normal, ↓stepEv, opnd, Pg.look, binK, intOp, dstOf, Bool.not_true, Bool.false_eq_true, Bool.true_eq_false, implies_true, true_and, and_true, forall_const, pickC, pickV, unc, gof, mux, mergeK, condsL, valV, heapV, footV, binV, intV, alives, aliveO, nxtQ, hdS, pairsA, frzA, closeQ_nil, closeQ_succ, diagQ_zero, diagQ_succ, mergeable, look_stripE, ofV, ofLeaf, sameK, subA, subQ, ptrsE, pairsO, frzO, subF, subG, pickOf, assocN, pairsE, pairsC, pairs0, frzE, frzC, frz0, frzH, Pg.freeze, List.foldl_nil, subOs, subO, subEv, subV_succ, subM, ldCells, objAt, ↓callT, callC, callV, normArgs, normA, resL, res8_eq, res_succ, resM, shiftR, shift1, AV.cells, TK.cells, AV.leaf, AV.leafy, putCells, Op.operands, Call.operands, Array.toList_append, List.getElem?_toArray, List.getElem?_cons_succ, List.getElem?_cons_zero, Option.bind_some, Option.getD_some, reduceCtorEq, Nat.reduceEqDiff, List.nil_append, List.append_nil, List.cons_append, List.length_cons, List.length_nil, List.map_cons, List.map_nil, List.set_cons_zero, Nat.zero_add, ite_true, ite_false, Option.some.injEq, Option.isSome_none, List.all_cons, List.all_nil, Bool.and_self, and_self, exists_eq_left', List.toList_toArray, length_ofBytes, getD_ofBytes, set_ofBytes, cByte_dec, lOne_dec, lCons_dec, dec2_some, List.length_set, pureB_bytes, List.contains_nil, List.range'_zero, C1by_ns, C1by_pre, C1by_r, C1by_H, optP_some, optV_some, optH_some, Int.toNat_natCast, Nat.le_refl, Nat.zero_lt_succ, C1by_it, regH_none, isNext, nextF, nextG, selC_true, selC_false, pureC, ↓msel, muC, ↓callP, C1by_mu, tk5, dz5, tk32, kLess, hcj, w1, hL]
        have hq : q.length = l.length := hq
        refine ⟨⟨by omega, by omega⟩, ⟨by omega, by omega⟩, ⟨by omega, by omega⟩, ⟨by omega, by omega⟩, ⟨by omega, by omega⟩, ⟨by omega, by omega⟩, ⟨by omega, by omega⟩, ⟨by omega, by omega⟩, ⟨by omega, by omega⟩, ⟨by omega, by omega⟩, ⟨by omega, by omega⟩, ⟨by omega, by omega⟩, (k, swpL q (k + 1) k), ⟨by rw [swpL_len]; exact hq, by omega, by omega, by rw [← hst]; exact hI⟩, by omega, by decide, subX_eq rfl (pureB_bytes _), rfl⟩
      | false =>
        rw [hL, if_neg (by simp)] at hst
        simp (maxSteps := 4000000) only [↓wpA_H, ↓wpH_exit, ↓wpH_seq, ↓wpH_cond, ↓wpH_region, ↓iselH_false, bselH_false, runH_nil, runH_cons, gw, gselH_plain, gselH_if, kselH_1, cselH_bool, gkind, ↓chk, justK, noW, ↓oneK, ↓pureK, ↓heapK, ↓thenA_normal, ↓thenA_exit, ↓blockA_normal, ↓blockA_exit, ↓stepEv, opnd, Pg.look, binK, intOp, dstOf, Bool.not_true, Bool.false_eq_true, Bool.true_eq_false, implies_true, true_and, and_true, forall_const, pickC, pickV, unc, gof, mux, mergeK, condsL, valV, heapV, footV, binV, intV, alives, aliveO, nxtQ, hdS, pairsA, frzA, closeQ_nil, closeQ_succ, diagQ_zero, diagQ_succ, mergeable, look_stripE, ofV, ofLeaf, sameK, retA, resK, tupA, subA, subQ, ptrsE, pairsO, frzO, subF, subG, pickOf, assocN, pairsE, pairsC, pairsL, pairs0, frzE, frzC, frzL, frz0, frzH, Pg.freeze, List.foldl_nil, subOs, subO, subEv, subV_succ, subM, subL, ldCells, objAt, ↓callT, callC, callV, normArgs, normA, resL, res8_eq, res_succ, resM, shiftR, shift1, AV.cells, TK.cells, Op.operands, Call.operands, Array.toList_append, List.getElem?_toArray, List.getElem?_cons_succ, List.getElem?_cons_zero, Option.bind_some, Option.getD_some, reduceCtorEq, Nat.reduceEqDiff, List.nil_append, List.append_nil, List.cons_append, List.length_cons, List.length_nil, List.map_cons, List.map_nil, Nat.zero_add, ite_true, ite_false, Option.some.injEq, Option.isSome_none, Bool.and_self, and_self, exists_eq_left', List.toList_toArray, length_ofBytes, getD_ofBytes, cByte_dec, lOne_dec, lCons_dec, dec2_some, pureB_bytes, List.contains_nil, List.range'_zero, C1by_ns, C1by_pre, C1by_r, C1by_H, optP_some, optV_some, optH_some, Int.toNat_natCast, Nat.zero_lt_succ, C1by_it, regH_none, isNext, nextF, nextG, selC_true, selC_false, pureC, ↓msel, muC, ↓callP, C1by_mu, tk5, dz5, tk32, kLess, hcj, w1, hL]
        have hq : q.length = l.length := hq
        refine ⟨⟨by omega, by omega⟩, ⟨by omega, by omega⟩, ⟨by omega, by omega⟩, ⟨by omega, by omega⟩, (i + 1, q), ⟨hq, by omega, by omega, ?_⟩, by omega, by decide, subX_eq rfl (pureB_bytes _), by rw [wrap64 (by omega) (by omega)]; rfl⟩
        rw [← hO, hO2, ← hI, hst]
    · have hcj : decide ((j : Int) > (a : Int)) = false := decide_eq_false (by omega)
      have hst : insI a j q = q := by
        cases j with
        | zero => rfl
        | succ k => rw [insI_succ, show decide (k + 1 > a) = false from decide_eq_false (by omega)]; rfl
      simp (maxSteps := 4000000) only [↓wpA_H, ↓wpH_exit, ↓wpH_seq, ↓wpH_cond, ↓wpH_region, ↓iselH_false, bselH_false, runH_nil, runH_cons, gw, gselH_plain, gselH_if, kselH_1, cselH_bool, gkind, ↓chk, justK, noW, ↓oneK, ↓pureK, ↓heapK, ↓thenA_normal, ↓thenA_exit, ↓blockA_normal, ↓blockA_exit, ↓stepEv, opnd, Pg.look, binK, intOp, dstOf, Bool.not_false, Bool.false_eq_true, false_implies, implies_true, imp_self, true_and, and_true, pickC, pickV, unc, gof, mux, mergeK, condsL, valV, heapV, footV, binV, intV, alives, aliveO, nxtQ, hdS, pairsA, frzA, closeQ_nil, closeQ_succ, diagQ_zero, diagQ_succ, mergeable, look_stripE, ofV, ofLeaf, sameK, retA, resK, tupA, subA, subQ, ptrsE, pairsO, frzO, subF, subG, pickOf, assocN, pairsE, pairsC, pairsL, pairs0, frzE, frzC, frzL, frz0, frzH, Pg.freeze, List.foldl_nil, subOs, subO, subEv, subV_succ, subM, subL, ldCells, objAt, ↓callT, callC, callV, normArgs, normA, resL, res8_eq, res_succ, resM, shiftR, shift1, AV.cells, TK.cells, Op.operands, Call.operands, Array.toList_append, List.getElem?_toArray, List.getElem?_cons_succ, List.getElem?_cons_zero, Option.bind_some, Option.getD_some, reduceCtorEq, Nat.reduceEqDiff, List.nil_append, List.append_nil, List.cons_append, List.length_cons, List.length_nil, List.map_cons, List.map_nil, Nat.zero_add, ite_true, ite_false, Option.some.injEq, Option.isSome_none, Bool.and_self, and_self, exists_eq_left', List.toList_toArray, length_ofBytes, getD_ofBytes, cByte_dec, lOne_dec, lCons_dec, dec2_some, pureB_bytes, List.contains_nil, List.range'_zero, C1by_ns, C1by_pre, C1by_r, C1by_H, optP_some, optV_some, optH_some, Int.toNat_natCast, Nat.zero_lt_succ, C1by_it, regH_none, isNext, nextF, nextG, selC_true, selC_false, pureC, ↓msel, muC, ↓callP, C1by_mu, tk5, dz5, tk32, kLess, hcj]
      refine ⟨(i + 1, q), ⟨hq, by omega, by omega, ?_⟩, by omega, by decide, subX_eq rfl (pureB_bytes _), by rw [wrap64 (by omega) (by omega)]; rfl⟩
      rw [← hO, hO2, ← hI, hst]
  · have hc : decide ((i : Int) < (b : Int)) = false := decide_eq_false (by omega)
    simp (maxSteps := 4000000) only [↓wpA_H, ↓wpH_exit, ↓wpH_seq, ↓wpH_cond, ↓wpH_region, ↓iselH_false, bselH_false, runH_nil, runH_cons, gw, gselH_plain, cselH_bool, ↓chk, justK, ↓oneK, ↓pureK, ↓thenA_normal, ↓thenA_exit, ↓blockA_exit, ↓stepEv, opnd, Pg.look, binK, intOp, Bool.false_eq_true, implies_true, true_and, and_true, valV, heapV, footV, binV, intV, alives, aliveO, nxtQ, hdS, pairsA, frzA, closeQ_nil, closeQ_succ, diagQ_zero, diagQ_succ, retA, resK, tupA, subA, subQ, ptrsE, pairsO, frzO, subF, subG, pickOf, assocN, pairsE, pairsC, pairsL, frzE, frzC, frzL, frzH, Pg.freeze, List.foldl_nil, subOs, subO, subEv, subV_succ, subM, subL, List.getElem?_cons_zero, reduceCtorEq, Nat.reduceEqDiff, List.nil_append, List.append_nil, List.length_cons, List.length_nil, Nat.zero_add, ite_true, ite_false, and_self, pureB_bytes, List.contains_nil, Nat.zero_lt_succ, regH_none, isNext, nextF, nextG, selC_false, kLess, hc]
    rw [insO_ge m (by omega)] at hO
    rw [hO]
    exact ⟨by decide, subX_eq rfl (pureB_bytes _)⟩
abbrev hBys : HC (List UInt8) := hOwn 5 1 cByte cByte_pure
def kInsertion : C1 := C1.mby (hCons hBys (hCons (hP .id (cInt .i64)) (hCons (hP .id (cInt .i64)) hNil))) (fun d => 0 ≤ d.2.1 ∧ d.2.1 ≤ d.2.2.1 ∧ d.2.2.1 ≤ d.1.length ∧ d.1.length ≤ 1000) (fun _ => .tuple []) (fun d => [.arr 5 1 (ofBytes (insS d.2.1.toNat d.2.2.1.toNat d.1))])
theorem ok_insertion : C1OK Try.prog 69 kInsertion := C1OK.mby (by kernel_rfl) (fun d h => by
  obtain ⟨l, a, b, u⟩ := d
  obtain ⟨h1, h2, h3, h4⟩ := h
  have h1 : 0 ≤ a := h1
  have h2 : a ≤ b := h2
  have h3 : b ≤ l.length := h3
  have h4 : l.length ≤ 1000 := h4
  have := calls_insertion l a.toNat b.toNat (by omega) (by omega) h4
  rw [show ((a.toNat : Nat) : Int) = a by omega, show ((b.toNat : Nat) : Int) = b by omega] at this
  exact this) (fun _ _ => Nat.le_refl _)

end Go.Pg
namespace Go.Pg
open Go Go.Proofs

theorem swpL_eq' (A : Array UInt8) (i j : Nat) : (Sort.swp A i j).toList = swpL A.toList i j := by
  have h := swpL_eq A.toList i j
  rw [Array.toArray_toList] at h
  rw [h]

/-! ### The heap -/
def siftD (hi first root : Nat) (l : List UInt8) : List UInt8 := (Sort.siftDown ltB hi first root l.toArray).toList
def chD (hi first root : Nat) (l : List UInt8) : Nat := if (decide (2 * root + 1 + 1 < hi) && ltB (l.getD (first + (2 * root + 1)) 0) (l.getD (first + (2 * root + 1) + 1) 0)) = true then 2 * root + 1 + 1 else 2 * root + 1
theorem chD_lt {hi first root : Nat} {l : List UInt8} (h : 2 * root + 1 < hi) : chD hi first root l < hi ∧ root < chD hi first root l := by
  unfold chD
  split
  · next h1 => simp only [Bool.and_eq_true, decide_eq_true_eq] at h1; omega
  · omega
theorem siftD_end {hi first root : Nat} {l : List UInt8} (h : hi ≤ 2 * root + 1) : siftD hi first root l = l := by
  unfold siftD
  rw [Sort.siftDown, dif_pos (by omega)]
theorem siftD_go {hi first root : Nat} {l : List UInt8} (h : 2 * root + 1 < hi) : siftD hi first root l =
    if ltB (l.getD (first + root) 0) (l.getD (first + chD hi first root l) 0) = true then siftD hi first (chD hi first root l) (swpL l (first + root) (first + chD hi first root l)) else l := by
  unfold siftD chD
  rw [Sort.siftDown, dif_neg (by omega)]
  simp only [getA, swpL_eq]
  by_cases h1 : (decide (2 * root + 1 + 1 < hi) && ltB (l.getD (first + (2 * root + 1)) 0) (l.getD (first + (2 * root + 1) + 1) 0)) = true
  · have h2 : 2 * root + 2 < hi := by simp only [Bool.and_eq_true, decide_eq_true_eq] at h1; omega
    rw [if_pos h1, if_pos h1]
    by_cases h3 : ltB (l.getD (first + root) 0) (l.getD (first + (2 * root + 1 + 1)) 0) = true
    · rw [if_neg (by rw [show 2 * root + 2 = 2 * root + 1 + 1 from rfl, h3]; simp), dif_pos h2, if_pos h3]
    · rw [if_pos (by rw [show 2 * root + 2 = 2 * root + 1 + 1 from rfl]; simpa using h3), if_neg h3]
  · rw [if_neg h1, if_neg h1]
    by_cases h3 : ltB (l.getD (first + root) 0) (l.getD (first + (2 * root + 1)) 0) = true
    · rw [if_neg (by rw [h3]; simp), if_pos h3]
    · rw [if_pos (by simpa using h3), if_neg h3]
theorem siftD_len (hi first : Nat) : ∀ (n root : Nat) (l : List UInt8), hi - root ≤ n → (siftD hi first root l).length = l.length := by
  intro n
  induction n with
  | zero => intro root l h; rw [siftD_end (by omega)]
  | succ n ih =>
    intro root l h
    by_cases h1 : 2 * root + 1 < hi
    · rw [siftD_go h1]
      split
      · rw [ih _ _ (by have := (chD_lt (first := first) (l := l) h1).2; omega), swpL_len]
      · rfl
    · rw [siftD_end (by omega)]
theorem siftD_length (hi first root : Nat) (l : List UInt8) : (siftD hi first root l).length = l.length := siftD_len hi first _ root l (Nat.le_refl _)

def hBuild (hi first k : Nat) (l : List UInt8) : List UInt8 := (Sort.heapBuild ltB hi first k l.toArray).toList
theorem hBuild_zero (hi first : Nat) (l : List UInt8) : hBuild hi first 0 l = l := rfl
theorem hBuild_succ (hi first k : Nat) (l : List UInt8) : hBuild hi first (k + 1) l = hBuild hi first k (siftD hi first k l) := rfl
def hPop (first k : Nat) (l : List UInt8) : List UInt8 := (Sort.heapPop ltB first k l.toArray).toList
theorem hPop_zero (first : Nat) (l : List UInt8) : hPop first 0 l = l := rfl
theorem hPop_succ (first k : Nat) (l : List UInt8) : hPop first (k + 1) l = hPop first k (siftD k first 0 (swpL l first (first + k))) := by
  unfold hPop siftD
  rw [Sort.heapPop, swpL_eq]
def heapS (a b : Nat) (l : List UInt8) : List UInt8 := (Sort.heapSort ltB l.toArray a b).toList
theorem heapS_eq (a b : Nat) (l : List UInt8) : heapS a b l = hPop a (b - a) (hBuild (b - a) a ((b - a - 1) / 2 + 1) l) := by
  unfold heapS hPop hBuild Sort.heapSort
  rw [Array.toArray_toList]
/-! ### The scans -/
def scanU (p : UInt8 → Bool) (l : List UInt8) (j i : Nat) : Nat := Sort.scanUp p l.toArray j i
theorem scanU_eq (p : UInt8 → Bool) (l : List UInt8) (j i : Nat) : scanU p l j i = if (decide (i ≤ j) && p (l.getD i 0)) = true then scanU p l j (i + 1) else i := by
  unfold scanU
  rw [Sort.scanUp, getA]
theorem scanU_ge (p : UInt8 → Bool) (l : List UInt8) (j i : Nat) : i ≤ scanU p l j i := Sort.scanUp_ge _ _ _ _
def scanN (p : UInt8 → Bool) (l : List UInt8) (i j : Nat) : Nat := Sort.scanDown p l.toArray i j
theorem scanN_succ (p : UInt8 → Bool) (l : List UInt8) (i j : Nat) : scanN p l i (j + 1) = if (decide (i ≤ j + 1) && p (l.getD (j + 1) 0)) = true then scanN p l i j else j + 1 := by
  unfold scanN
  rw [Sort.scanDown, getA]
theorem scanN_le (p : UInt8 → Bool) (l : List UInt8) (i j : Nat) : scanN p l i j ≤ j := Sort.scanDown_le _ _ _ _
theorem scanU_le (p : UInt8 → Bool) (l : List UInt8) (j : Nat) : ∀ (n i : Nat), j + 1 - i ≤ n → i ≤ j + 1 → scanU p l j i ≤ j + 1 := by
  intro n
  induction n with
  | zero => intro i h1 h2; rw [scanU_eq, if_neg (by simp; omega)]; exact h2
  | succ n ih =>
    intro i h1 h2
    rw [scanU_eq]
    split
    · next h => simp only [Bool.and_eq_true, decide_eq_true_eq] at h; exact ih _ (by omega) (by omega)
    · exact h2
theorem scanN_ge (p : UInt8 → Bool) (l : List UInt8) (i : Nat) : ∀ j, i ≤ j + 1 → i ≤ scanN p l i j + 1 := by
  intro j
  induction j with
  | zero => intro h; exact h
  | succ j ih =>
    intro h
    rw [scanN_succ]
    split
    · next h1 => simp only [Bool.and_eq_true, decide_eq_true_eq] at h1; exact ih (by omega)
    · omega

/-! ### The partitions -/
def partL (a i j : Nat) (l : List UInt8) : Nat × List UInt8 := ((Sort.partLoop ltB a i j l.toArray).1, (Sort.partLoop ltB a i j l.toArray).2.toList)
def pU (a : Nat) (l : List UInt8) : UInt8 → Bool := fun x => ltB x (l.getD a 0)
def pD (a : Nat) (l : List UInt8) : UInt8 → Bool := fun x => !ltB x (l.getD a 0)
theorem partL_eq (a i j : Nat) (l : List UInt8) : partL a i j l =
    if scanU (pU a l) l j i > scanN (pD a l) l (scanU (pU a l) l j i) j then (scanN (pD a l) l (scanU (pU a l) l j i) j, l)
    else partL a (scanU (pU a l) l j i + 1) (scanN (pD a l) l (scanU (pU a l) l j i) j - 1) (swpL l (scanU (pU a l) l j i) (scanN (pD a l) l (scanU (pU a l) l j i) j)) := by
  unfold partL
  rw [Sort.partLoop_eq]
  simp only [getA, swpL_eq]
  show _ = if scanU (pU a l) l j i > scanN (pD a l) l (scanU (pU a l) l j i) j then _ else _
  unfold scanU scanN pU pD
  split <;> rfl
def part (a b pivot : Nat) (l : List UInt8) : Nat × Bool × List UInt8 := ((Sort.partition ltB l.toArray a b pivot).1, (Sort.partition ltB l.toArray a b pivot).2.1, (Sort.partition ltB l.toArray a b pivot).2.2.toList)
theorem part_eq (a b pivot : Nat) (l m : List UInt8) (i j : Nat) (hm : m = swpL l a pivot) (hi : i = scanU (pU a m) m (b - 1) (a + 1)) (hj : j = scanN (pD a m) m i (b - 1)) : part a b pivot l =
    if i > j then (j, true, swpL m j a) else ((partL a (i + 1) (j - 1) (swpL m i j)).1, false, swpL (partL a (i + 1) (j - 1) (swpL m i j)).2 (partL a (i + 1) (j - 1) (swpL m i j)).1 a) := by
  unfold part Sort.partition
  simp only [swpL_eq, getA, ← hm]
  have e1 : Sort.scanUp (fun x => ltB x (m.getD a 0)) m.toArray (b - 1) (a + 1) = i := hi.symm
  rw [e1]
  have e2 : Sort.scanDown (fun x => !ltB x (m.getD a 0)) m.toArray i (b - 1) = j := hj.symm
  rw [e2]
  split
  · rfl
  · unfold partL
    simp only []
    refine Prod.ext rfl (Prod.ext rfl ?_)
    exact swpL_eq' _ _ _

def eqL (a i j : Nat) (l : List UInt8) : Nat × List UInt8 := ((Sort.partEqLoop ltB a i j l.toArray).1, (Sort.partEqLoop ltB a i j l.toArray).2.toList)
def qU (a : Nat) (l : List UInt8) : UInt8 → Bool := fun x => !ltB (l.getD a 0) x
def qD (a : Nat) (l : List UInt8) : UInt8 → Bool := fun x => ltB (l.getD a 0) x
theorem eqL_eq (a i j : Nat) (l : List UInt8) : eqL a i j l =
    if scanU (qU a l) l j i > scanN (qD a l) l (scanU (qU a l) l j i) j then (scanU (qU a l) l j i, l)
    else eqL a (scanU (qU a l) l j i + 1) (scanN (qD a l) l (scanU (qU a l) l j i) j - 1) (swpL l (scanU (qU a l) l j i) (scanN (qD a l) l (scanU (qU a l) l j i) j)) := by
  unfold eqL
  rw [Sort.partEqLoop_eq]
  simp only [getA, swpL_eq]
  show _ = if scanU (qU a l) l j i > scanN (qD a l) l (scanU (qU a l) l j i) j then _ else _
  unfold scanU scanN qU qD
  split <;> rfl
def partE (a b pivot : Nat) (l : List UInt8) : Nat × List UInt8 := eqL a (a + 1) (b - 1) (swpL l a pivot)

/-! ### Sorted already? -/
def scanS (l : List UInt8) (b i : Nat) : Nat := Sort.scanSorted ltB l.toArray b i
theorem scanS_eq (l : List UInt8) (b i : Nat) : scanS l b i = if (decide (i < b) && !ltB (l.getD i 0) (l.getD (i - 1) 0)) = true then scanS l b (i + 1) else i := by
  unfold scanS
  rw [Sort.scanSorted, getA, getA]
theorem partialS (l : List UInt8) (a b : Nat) (h : b - a < 50) : Sort.partialInsertionSort ltB l.toArray a b = (l.toArray, decide (scanS l b (a + 1) = b)) := by
  unfold Sort.partialInsertionSort
  rw [Sort.partialIns_succ, if_pos h]
  show (if scanS l b (a + 1) = b then _ else _) = _
  split <;> simp_all
/-! ### The pivot -/
def ord2 (l : List UInt8) (a b s : Nat) : Nat × Nat × Nat := Sort.order2 ltB l.toArray a b s
theorem ord2_eq (l : List UInt8) (a b s : Nat) : ord2 l a b s = if ltB (l.getD b 0) (l.getD a 0) = true then (b, a, s + 1) else (a, b, s) := by
  unfold ord2 Sort.order2
  rw [getA, getA]
def med (l : List UInt8) (a b c s : Nat) : Nat × Nat := Sort.median ltB l.toArray a b c s
theorem med_eq (l : List UInt8) (a b c s : Nat) : med l a b c s = ((ord2 l (ord2 l a b s).1 (ord2 l (ord2 l a b s).2.1 c (ord2 l a b s).2.2).1 (ord2 l (ord2 l a b s).2.1 c (ord2 l a b s).2.2).2.2).2.1, (ord2 l (ord2 l a b s).1 (ord2 l (ord2 l a b s).2.1 c (ord2 l a b s).2.2).1 (ord2 l (ord2 l a b s).2.1 c (ord2 l a b s).2.2).2.2).2.2) := rfl

/-! ### Turned round -/
end Go.Pg
