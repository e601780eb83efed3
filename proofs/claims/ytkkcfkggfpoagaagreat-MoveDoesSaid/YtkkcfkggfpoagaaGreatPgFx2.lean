/- Where words begin and end: the iterators that the program hands out. What is heard of an iterator of places. Motions by words, by the program: small parts. The n-th end of a word, by the program. The n-th of places ahead, by the program. Motions back by words, by the program; they are the document's. The n-th beginning of a word, by the program. -/
import Derived.Test.YtkkcfkggfpoagaaGreatPgBs
import Derived.Test.YtkkcfkggfpoagaaGreatPgFx1
set_option linter.unusedVariables false
set_option linter.unusedSimpArgs false
namespace Go.Pg
open Go Go.Proofs

theorem ok_askS : C1OK Tryz.prog 123 (kAsk startB) := C1OK.by (by kernel_rfl) (fun d h => calls_askS d.1 d.2.1 d.2.2 h.1 h.2.1 h.2.2) (fun _ => rfl) (fun _ => rfl)
theorem ok_askE : C1OK Tryz.prog 124 (kAsk endB) := C1OK.by (by kernel_rfl) (fun d h => calls_askE d.1 d.2.1 d.2.2 h.1 h.2.1 h.2.2) (fun _ => rfl) (fun _ => rfl)

/-- A closure that is asked of bytes: which of the two, and of which words. -/
def cAskFn : Cd (Bool × Bool) where
  enc d := .fn (if d.1 = true then 123 else 124) [.rp [.bool d.2]]
  dec
    | .fn f [.rp [.bool b]] => if f = 123 then some (true, b) else if f = 124 then some (false, b) else none
    | _ => none
  ok v a h := by
    split at h
    · split at h
      · next e => cases h; rw [e]; rfl
      · split at h
        · next e => cases h; rw [e]; rfl
        · cases h
    · cases h
theorem cAskFn_decS (b : Bool) : cAskFn.dec (.fn 123 [.rp [.bool b]]) = some (true, b) := rfl
theorem cAskFn_decE (b : Bool) : cAskFn.dec (.fn 124 [.rp [.bool b]]) = some (false, b) := rfl

def gOf (st : Bool) (big : Bool) : List UInt8 → Nat → Bool := if st = true then startB big else endB big
def marksOf (st e big : Bool) (ls : Ls) : List (Int × Int) := marksTo e (gOf st big) ls ls.length
abbrev lAt : CdL (Ls × Bool × Bool × Bool) := lCons (cRp (lOne cStrs)) (lCons (cRp (lOne cBool)) (lOne (cRp (lOne cAskFn))))
def kAt : C1 := C1.itBy lAt (fun d => fits 65536 65536 d.1) (fun d => (marksOf d.2.2.1 d.2.1 d.2.2.2 d.1).map fun p => [aPos p])
theorem ok_at : C1OK Tryz.prog 134 kAt := by
  refine C1OK.itBy (by kernel_rfl) fun d h => ?_
  obtain ⟨ls, e, st, big⟩ := d
  cases st with
  | true => exact it_at ls e _ big startB h ok_askS
  | false => exact it_at ls e _ big endB h ok_askE

/-- The iterator, as a value. -/
def aAt (ls : Ls) (e st big : Bool) : AV := .fn 134 [.rp [.sl 1 (ls.map .str)], .rp [.bool e], .rp [.fn (if st = true then 123 else 124) [.rp [.bool big]]]]

set_option maxHeartbeats 4000000 in
theorem calls_at (ls : Ls) (e st big : Bool) : CallsR Tryz.prog 122 [.sl 1 (ls.map .str), .bool e, .fn (if st = true then 123 else 124) [.rp [.bool big]]] [] (aAt ls e st big) [] := by
  refine callsR_of (mrg := true) (dyn := []) (CtrOK.nil _) mixed Tryz.func122 rfl (by simp [Tryz.ntmps122]) (by kernel_rfl) ?_
  rw [show Tryz.f122.results.toList = [.tmp 6] from by kernel_rfl]
  simp (maxSteps := 4000000) only [go_sem, Nat.reduceAdd, reduceCtorEq, Nat.reduceEqDiff, Nat.reduceBEq, aAt]

def kAtF : C1 := C1.by [.sl 1 [], .id, .id] (lCons cStrs (lCons cBool (lOne cAskFn))) (fun _ => True) (fun d => aAt d.1 d.2.1 d.2.2.1 d.2.2.2) (fun _ => [])
theorem ok_atF : C1OK Tryz.prog 122 kAtF := C1OK.by (by kernel_rfl) (fun d _ => calls_at d.1 d.2.1 d.2.2.1 d.2.2.2) (fun d => by unfold aAt; rfl) (fun _ => rfl)

set_option maxHeartbeats 4000000 in
theorem calls_Starts (ls : Ls) (big : Bool) : CallsR Tryz.prog 104 [.sl 1 (ls.map .str), .bool big] [] (aAt ls true true big) [] := by
  refine callsR_of (mrg := true) (dyn := []) (CtrOK.cons ok_atF (CtrOK.nil _)) mixed Tryz.func104 rfl (by simp [Tryz.ntmps104]) (by kernel_rfl) ?_
  rw [show Tryz.f104.results.toList = [.tmp 4] from by kernel_rfl]
  simp (maxSteps := 4000000) only [go_sem, reduceCtorEq, Nat.reduceEqDiff, aAt, kAtF, cAskFn_decS]

set_option maxHeartbeats 4000000 in
theorem calls_Ends (ls : Ls) (big : Bool) : CallsR Tryz.prog 108 [.sl 1 (ls.map .str), .bool big] [] (aAt ls false false big) [] := by
  refine callsR_of (mrg := true) (dyn := []) (CtrOK.cons ok_atF (CtrOK.nil _)) mixed Tryz.func108 rfl (by simp [Tryz.ntmps108]) (by kernel_rfl) ?_
  rw [show Tryz.f108.results.toList = [.tmp 4] from by kernel_rfl]
  simp (maxSteps := 4000000) only [go_sem, reduceCtorEq, Nat.reduceEqDiff, aAt, kAtF, cAskFn_decE]
end Go.Pg
namespace Go.Pg
open Go Go.Proofs

theorem subX_nls {H : AH} {F : List Nat} {pick : List (Option Nat)} {i sz : Nat} (h : pick[i]? = some none) : subX H F pick [.nls] [.own i sz 0] := .inr ⟨⟨⟨h, rfl⟩, trivial⟩, trivial⟩
theorem subX_own {H : AH} {F : List Nat} {pick : List (Option Nat)} {i j sz n n' : Nat} (h : pick[i]? = some (some j)) (hn : n = n') : subX H F pick [.own j sz n] [.own i sz n'] := .inr ⟨⟨⟨h, rfl, hn⟩, trivial⟩, trivial⟩
theorem aPos_def (p : Int × Int) : aPos p = .agg [.int .i64 p.1, .int .i64 p.2] := rfl
end Go.Pg
namespace Go.Pg
open Go Go.Proofs

def kStartsF : C1 := C1.by [.sl 1 [], .id] (lCons cStrs (lOne cBool)) (fun _ => True) (fun d => aAt d.1 true true d.2) (fun _ => [])
theorem ok_StartsF : C1OK Tryz.prog 104 kStartsF := C1OK.by (by kernel_rfl) (fun d _ => calls_Starts d.1 d.2) (fun d => by unfold aAt; rfl) (fun _ => rfl)
def kEndsF : C1 := C1.by [.sl 1 [], .id] (lCons cStrs (lOne cBool)) (fun _ => True) (fun d => aAt d.1 false false d.2) (fun _ => [])
theorem ok_EndsF : C1OK Tryz.prog 108 kEndsF := C1OK.by (by kernel_rfl) (fun d _ => calls_Ends d.1 d.2) (fun d => by unfold aAt; rfl) (fun _ => rfl)

theorem calls_fails (ls : Ls) (p : Int × Int) (n : Int) : CallsR Tryz.prog 103 [.sl 1 (ls.map .str), aPos p, .int .i64 n] [] (.bool (!may ls p n)) [] := by
  obtain ⟨p1, p2⟩ := p
  refine callsR_of (mrg := true) (dyn := []) (CtrOK.cons ok_CPlace (CtrOK.nil _)) mixed Tryz.func103 rfl (by simp [Tryz.ntmps103]) (by kernel_rfl) ?_
  rw [show Tryz.f103.results.toList = [.tmp 6] from by kernel_rfl]
  simp (maxSteps := 4000000) only [go_sem, Nat.reduceAdd, reduceCtorEq, Nat.reduceEqDiff, tk25, dz25, kRPlace, aPos, may]
  cases place ls p1 p2 <;> by_cases h : n < 1 <;> simp [h] <;> omega
def kFails : C1 := C1.by [.sl 1 [], .id, .id] (lCons cStrs (lCons cPos2 (lOne (cInt .i64)))) (fun _ => True) (fun d => .bool (!may d.1 d.2.1 d.2.2)) (fun _ => [])
theorem ok_fails : C1OK Tryz.prog 103 kFails := C1OK.by (by kernel_rfl) (fun d _ => calls_fails d.1 d.2.1 d.2.2) (fun _ => rfl) (fun _ => rfl)

/-- The motion to a line's end. -/
def wEnd (ls : Ls) (p : Int × Int) (l : Int) : Mv × Bool := if less p (l, (ls.getD l.toNat []).length) = true then mTo (l, (ls.getD l.toNat []).length) 0 else mNone
theorem calls_wEnd (ls : Ls) (p : Int × Int) (l : Int) (h0 : 0 ≤ l) (h1 : l < ls.length) : CallsR Tryz.prog 106 [.sl 1 (ls.map .str), aPos p, .int .i64 l] [] (aMove (wEnd ls p l)) [] := by
  obtain ⟨p1, p2⟩ := p
  refine callsR_of (mrg := true) (dyn := []) (CtrOK.cons ok_Less (CtrOK.nil _)) mixed Tryz.func106 rfl (by simp [Tryz.ntmps106]) (by kernel_rfl) ?_
  rw [show Tryz.f106.results.toList = [.cell 6 49, .tmp 7] from by kernel_rfl]
  cases hl : less (p1, p2) (l, (ls.getD l.toNat []).length) with
  | true =>
    rw [wEnd, if_pos hl]
    simp (maxSteps := 4000000) only [go_sem, Nat.reduceAdd, reduceCtorEq, Nat.reduceEqDiff, Nat.reduceLeDiff, tk9, dz9, tk22, tk25, tz25, dz25, tk49, tz49, dz49, kLess, aPos, aMove, aMv, mTo, hl]
    exact ⟨by omega, by omega⟩
  | false =>
    rw [wEnd, if_neg (by rw [hl]; simp)]
    simp (maxSteps := 4000000) only [go_sem, Nat.reduceAdd, reduceCtorEq, Nat.reduceEqDiff, Nat.reduceLeDiff, tk9, dz9, tk22, tk25, tz25, dz25, tk49, tz49, dz49, kLess, aPos, aMove, aMv, mNone, hl]
    exact ⟨by omega, by omega⟩
def kWEnd : C1 := C1.by [.sl 1 [], .id, .id] (lCons cStrs (lCons cPos2 (lOne (cInt .i64)))) (fun d => 0 ≤ d.2.2 ∧ d.2.2 < d.1.length) (fun d => aMove (wEnd d.1 d.2.1 d.2.2)) (fun _ => [])
theorem ok_wEnd : C1OK Tryz.prog 106 kWEnd := C1OK.by (by kernel_rfl) (fun d h => calls_wEnd d.1 d.2.1 d.2.2 h.1 h.2) (fun _ => rfl) (fun _ => rfl)
end Go.Pg
namespace Go.Pg
open Go Go.Proofs

theorem skip_eq (p q : Int × Int) (here : Bool) : (less q p || (q.1 == p.1 && q.2 == p.2) && !here) = !isBehind p here q := by
  obtain ⟨a, b⟩ := p
  obtain ⟨c, d⟩ := q
  unfold isBehind less
  rw [Bool.eq_iff_iff]
  cases here <;> simp <;> omega

theorem behind_succ (M : List (Int × Int)) (p : Int × Int) (here : Bool) (k : Nat) (hk : k < M.length) : behind (M.take (k + 1)) p here = if isBehind p here (M.getD k (0, 0)) = true then behind (M.take k) p here ++ [M.getD k (0, 0)] else behind (M.take k) p here :=
  filter_take _ M k (0, 0) hk

theorem behind_at (M : List (Int × Int)) (p : Int × Int) (here : Bool) (k : Nat) (hk : k < M.length) (h : isBehind p here (M.getD k (0, 0)) = true) : (behind M p here)[(behind (M.take k) p here).length]? = some (M.getD k (0, 0)) := by
  have h1 := behind_succ M p here k hk
  rw [if_pos h] at h1
  have h2 : behind M p here = behind (M.take (k + 1)) p here ++ behind (M.drop (k + 1)) p here := by
    unfold behind
    rw [← List.filter_append, List.take_append_drop]
  rw [h2, h1, List.append_assoc, List.getElem?_append_right (Nat.le_refl _), Nat.sub_self]
  rfl

theorem nth_at (l : List (Int × Int)) (k : Nat) (n way : Int) (q : Int × Int) (h : l[k]? = some q) (hn : n = k + 1) : nth l n way = mTo q way := by
  have hk := (List.getElem?_eq_some_iff.1 h).1
  unfold nth
  rw [if_neg (by omega), show (n - 1).toNat = k by omega, List.getD_eq_getElem?_getD, h]
  rfl

def rTail (ls : Ls) (p : Int × Int) (n : Int) (big here : Bool) : Mv × Bool := if may ls p n = true then nth (behind (marksOf false false big ls) p here) n 1 else mNone

set_option maxRecDepth 20000 in
set_option maxHeartbeats 4000000 in
theorem calls_Tail (ls : Ls) (p : Int × Int) (n : Int) (big here : Bool) (hf : fits 65536 65536 ls) (hn9 : n ≤ 9223372036854775807) : CallsR Tryz.prog 80 [.sl 1 (ls.map .str), aPos p, .int .i64 n, .bool big, .bool here] [] (aMove (rTail ls p n big here)) [] := by
  obtain ⟨p1, p2⟩ := p
  refine callsR_of (mrg := true) (dyn := []) (CtrOK.cons ok_fails (CtrOK.cons ok_EndsF (CtrOK.cons ok_at (CtrOK.cons ok_Less (CtrOK.nil _))))) mixed Tryz.func80 rfl (by simp [Tryz.ntmps80]) (by kernel_rfl) ?_
  rw [show Tryz.f80.results.toList = [.cell 10 49, .cell 11 4] from by kernel_rfl]
  cases hm : may ls (p1, p2) n with
  | false =>
    rw [rTail, if_neg (by rw [hm]; simp)]
    simp (maxSteps := 4000000) only [go_sem, Nat.reduceAdd, reduceCtorEq, Nat.reduceEqDiff, tk3, dz3, tk4, tz4, dz4, tk25, dz25, tk49, tz49, dz49, kFails, aPos, aMove, aMv, mNone, hm]
  | true =>
    rw [rTail, if_pos hm]
    simp (maxSteps := 4000000) only [go_sem, Nat.reduceAdd, reduceCtorEq, Nat.reduceEqDiff, tk3, dz3, tz4, tk25, dz25, tz49, kFails, kEndsF, aAt, kAt, kLess, aPos, hm, cAskFn_decE]
    refine ⟨hf, ?_⟩
    generalize hM : marksOf false false big ls = M
    rw [mark_eq]
    refine rangG_intro M (fun p => [aPos p]) (0, 0) [(6, .ptr 0 2 1 0 0), (7, .ptr 1 1 1 0 0), (9, .ptr 2 1 1 0 0), (10, .ptr 3 5 1 0 0), (11, .ptr 4 1 1 0 0)]
      [.arr 25 2 [.agg [.int .i64 p1, .int .i64 p2]], .arr 3 1 [.int .i64 n], .arr 4 1 [.bool here], .arr 49 5 [.agg [.int .i64 0, .int .i64 0, .int .i64 0, .bool false, .int .i64 0]], .arr 4 1 [.bool false]]
      (fun k => ([(6, .ptr 0 2 1 0 0), (7, .ptr 1 1 1 0 0), (9, .ptr 2 1 1 0 0), (10, .ptr 3 5 1 0 0), (11, .ptr 4 1 1 0 0)], [.arr 25 2 [.agg [.int .i64 p1, .int .i64 p2]], .arr 3 1 [.int .i64 (n - (behind (M.take k) (p1, p2) here).length)], .arr 4 1 [.bool here], .arr 49 5 [.agg [.int .i64 0, .int .i64 0, .int .i64 0, .bool false, .int .i64 0]], .arr 4 1 [.bool false]]))
      (fun k => ((behind (M.take k) (p1, p2) here).length : Int) < n) rfl ?_ ?_ ?_ (fun _ => rfl) ?_ ?_
    · simp (maxSteps := 4000000) only [go_sem, Nat.reduceAdd, reduceCtorEq, Nat.reduceEqDiff]
      exact ⟨by decide, subX_eq rfl rfl, subX_eq rfl rfl, subX_eq rfl rfl, subX_eq rfl rfl, subX_eq rfl rfl⟩
    · simp (maxSteps := 4000000) only [go_sem, Nat.reduceAdd, reduceCtorEq, Nat.reduceEqDiff, Nat.reduceLT]
      exact ⟨by decide, subX_eq rfl rfl, subX_eq (by simp [behind]) rfl, subX_eq rfl rfl, subX_eq rfl rfl, subX_eq rfl rfl⟩
    · have := hm
      simp only [may, Bool.and_eq_true, decide_eq_true_eq] at this
      show ((behind [] (p1, p2) here).length : Int) < n
      simp only [behind, List.filter_nil, List.length_nil]
      omega
    · intro k hk hpk
      have hpk : ((behind (M.take k) (p1, p2) here).length : Int) < n := hpk
      have hs := skip_eq (p1, p2) (M.getD k (0, 0)) here
      have hsu := behind_succ M (p1, p2) here k hk
      have hw : IntKind.i64.wrap (n - (behind (M.take k) (p1, p2) here).length - 1) = n - (behind (M.take k) (p1, p2) here).length - 1 := wrap64 (by omega) (by omega)
      have hg : less ((M.getD k (0, 0)).1, (M.getD k (0, 0)).2) (p1, p2) = false → less ((M.getD k (0, 0)).1, (M.getD k (0, 0)).2) (p1, p2) = false ∧ (((M.getD k (0, 0)).1 == p1 && (M.getD k (0, 0)).2 == p2) = true → (!less ((M.getD k (0, 0)).1, (M.getD k (0, 0)).2) (p1, p2) && ((M.getD k (0, 0)).1 == p1 && (M.getD k (0, 0)).2 == p2)) = true) :=
        fun h => ⟨h, fun h2 => by rw [h, h2]; rfl⟩
      cases hb : isBehind (p1, p2) here (M.getD k (0, 0)) with
      | true =>
        rw [hb] at hs
        have hat := behind_at M (p1, p2) here k hk hb
        rw [if_pos hb] at hsu
        by_cases hn : n - (behind (M.take k) (p1, p2) here).length - 1 = 0
        · have hct : (n - ((behind (M.take k) (p1, p2) here).length : Int) - 1 == 0) = true := by rw [hn]; rfl
          rw [nth_at _ _ n 1 _ hat (by omega)]
          simp (maxSteps := 4000000) only [go_sem, Nat.reduceAdd, Nat.reduceEqDiff, Nat.reduceLeDiff, tk3, dz3, tk4, dz4, tk25, tz25, dz25, eq25, tk49, tz49, dz49, aPos, aMove, aMv, mTo, hs, hw, hct]
          exact hg
        · have hct : (n - ((behind (M.take k) (p1, p2) here).length : Int) - 1 == 0) = false := by rw [beq_eq_false_iff_ne]; exact hn
          simp (maxSteps := 4000000) only [go_sem, Nat.reduceAdd, reduceCtorEq, Nat.reduceEqDiff, Nat.reduceLT, tk3, dz3, tk4, dz4, tk25, tz25, dz25, eq25, aPos, hs, hw, hct]
          exact ⟨hg, by rw [hsu, List.length_append, List.length_singleton]; omega, by decide, subX_eq rfl rfl, subX_eq (by rw [hsu, List.length_append, List.length_singleton]; congr 2; omega) rfl, subX_eq rfl rfl, subX_eq rfl rfl, subX_eq rfl rfl⟩
      | false =>
        rw [hb] at hs
        rw [if_neg (by rw [hb]; simp)] at hsu
        simp (maxSteps := 4000000) only [go_sem, Nat.reduceAdd, reduceCtorEq, Nat.reduceEqDiff, Nat.reduceLT, tk4, dz4, tk25, tz25, dz25, eq25, tk49, tz49, dz49, kFails, kEndsF, aAt, kAt, kLess, aPos, aMove, aMv, hs]
        exact ⟨hg, by rw [hsu]; exact hpk, by decide, subX_eq rfl rfl, subX_eq (by rw [hsu]) rfl, subX_eq rfl rfl, subX_eq rfl rfl, subX_eq rfl rfl⟩
    · intro hpk
      have hpk : ((behind (M.take M.length) (p1, p2) here).length : Int) < n := hpk
      rw [List.take_of_length_le (Nat.le_refl M.length)] at hpk ⊢
      have hno : nth (behind M (p1, p2) here) n 1 = mNone := by rw [nth, if_pos (by omega)]
      rw [hno]
      simp (maxSteps := 4000000) only [go_sem, Nat.reduceAdd, Nat.reduceEqDiff, tk4, dz4, tk49, tz49, dz49, kFails, kEndsF, aAt, kAt, kLess, aPos, aMove, aMv, mNone]
end Go.Pg
namespace Go.Pg
open Go Go.Proofs

def tw (M : List (Int × Int)) (p : Int × Int) : List (Int × Int) := M.takeWhile fun q => less q p
def wBack (M : List (Int × Int)) (p : Int × Int) (n : Int) : (Int × Int) × Bool := if n > (tw M p).length then ((0, 0), false) else ((tw M p).getD ((tw M p).length - n.toNat) (0, 0), true)

theorem tw_stop (p : Int × Int) : ∀ (M : List (Int × Int)) (k : Nat), k < M.length → (M.take k).all (fun q => less q p) = true → less (M.getD k (0, 0)) p = false → tw M p = M.take k := by
  intro M
  induction M with
  | nil => intro k h; simp at h
  | cons q M ih =>
    intro k hk ha hs
    cases k with
    | zero =>
      have hs : less q p = false := hs
      simp [tw, hs]
    | succ k =>
      simp only [List.take_succ_cons, List.all_cons, Bool.and_eq_true] at ha
      have := ih k (by simpa using hk) ha.2 hs
      unfold tw at this ⊢
      rw [List.takeWhile_cons, if_pos ha.1, this, List.take_succ_cons]
theorem tw_all (p : Int × Int) (M : List (Int × Int)) (h : M.all (fun q => less q p) = true) : tw M p = M := by
  unfold tw
  induction M with
  | nil => rfl
  | cons q M ih =>
    simp only [List.all_cons, Bool.and_eq_true] at h
    rw [List.takeWhile_cons, if_pos h.1, ih h.2]

def aBack (r : (Int × Int) × Bool) : AV := .tuple [aPos r.1, .bool r.2]

set_option maxRecDepth 20000 in
set_option maxHeartbeats 4000000 in
theorem calls_back (ls : Ls) (e st big : Bool) (p : Int × Int) (n : Int) (h1 : 1 ≤ n) (hf : fits 65536 65536 ls) : CallsR Tryz.prog 107 [aAt ls e st big, aPos p, .int .i64 n] [] (aBack (wBack (marksOf st e big ls) p n)) [] := by
  obtain ⟨p1, p2⟩ := p
  refine callsR_of (mrg := true) (dyn := []) (CtrOK.cons ok_at (CtrOK.cons ok_Less (CtrOK.nil _))) mixed Tryz.func107 rfl (by simp [Tryz.ntmps107]) (by kernel_rfl) ?_
  rw [show Tryz.f107.results.toList = [.cell 6 25, .tmp 7] from by kernel_rfl]
  have hml : (marksOf st e big ls).length ≤ 4295032832 := by
    have h1 := marksTo_len e (gOf st big) ls 65536 (fits_getD hf) ls.length
    have h2 : ls.length * (65536 + 1) ≤ 65536 * 65537 := Nat.mul_le_mul hf.1 (by omega)
    show (marksTo e (gOf st big) ls ls.length).length ≤ _
    omega
  generalize hM : marksOf st e big ls = M at hml ⊢
  have hend : ∀ k, tw M (p1, p2) = M.take k → k ≤ M.length → (n > (k : Int) → wBack M (p1, p2) n = ((0, 0), false)) ∧ (n ≤ (k : Int) → wBack M (p1, p2) n = ((M.take k).getD (k - n.toNat) (0, 0), true)) := by
    intro k hk hkl
    have hl : (tw M (p1, p2)).length = k := by rw [hk, List.length_take]; omega
    unfold wBack
    rw [hl]
    exact ⟨fun h => if_pos h, fun h => by rw [if_neg (by omega), hk]⟩
  cases st
  all_goals
    unfold aAt
    simp (maxSteps := 4000000) only [go_sem, Nat.reduceAdd, reduceCtorEq, Nat.reduceEqDiff, tz25, tz37, aPos, kAt, kLess, cAskFn_decS, cAskFn_decE]
    refine ⟨hf, ?_⟩
    rw [mark_eq, hM]
    refine rangG_intro M (fun p => [aPos p]) (0, 0) [(2, .int .i64 n), (4, .ptr 0 2 1 0 0), (6, .ptr 1 2 1 0 0), (8, .ptr 2 1 1 0 0)] [.arr 25 2 [.agg [.int .i64 p1, .int .i64 p2]], .arr 25 2 [.agg [.int .i64 0, .int .i64 0]], .arr 37 1 [.nls]]
      (fun k => ([(2, .int .i64 n), (4, .ptr 0 2 1 0 0), (6, .ptr 1 2 1 0 0), (8, .ptr 2 1 1 0 0)], [.arr 25 2 [.agg [.int .i64 p1, .int .i64 p2]], .arr 25 2 [.agg [.int .i64 0, .int .i64 0]], .arr 37 1 [.own 3 2 k], .arr 25 2 ((M.take k).map aPos)])) (fun k => (M.take k).all (fun q => less q (p1, p2)) = true) rfl ?_ ?_ (by simp) (fun _ => rfl) ?_ ?_
    · simp (maxSteps := 4000000) only [go_sem, Nat.reduceAdd, reduceCtorEq, Nat.reduceEqDiff]
      exact ⟨by decide, subX_eq rfl rfl, subX_eq rfl rfl, subX_eq rfl rfl⟩
    · simp (maxSteps := 4000000) only [go_sem, Nat.reduceAdd, reduceCtorEq, Nat.reduceEqDiff, Nat.reduceLT]
      exact ⟨by decide, subX_eq rfl rfl, subX_eq rfl rfl, subX_nls rfl⟩
    · intro k hk hpk
      have hpk : (M.take k).all (fun q => less q (p1, p2)) = true := hpk
      have hrl : (M.take k).length = k := by rw [List.length_take]; omega
      have hap := app1_pos (M.take k) (M.getD k (0, 0))
      rw [← take_succ_getD M k (0, 0) hk] at hap
      have hrl2 : (M.take (k + 1)).length = k + 1 := by rw [List.length_take]; omega
      cases hb : less (M.getD k (0, 0)) (p1, p2) with
      | true =>
        have hall : (M.take (k + 1)).all (fun q => less q (p1, p2)) = true := by
          rw [take_succ_getD M k (0, 0) hk, List.all_append, hpk]
          simp only [List.all_cons, List.all_nil, hb]; rfl
        simp (maxSteps := 4000000) only [go_sem, Nat.reduceAdd, reduceCtorEq, Nat.reduceEqDiff, Nat.reduceLT, Nat.reducePow, Nat.reduceLeDiff, tk25, tz25, dz25, eb25, tk37, dz37, hrl, hap, hb, pureB_posL, aPos_def]
        exact ⟨⟨by decide, by omega⟩, hall, by decide, subX_eq rfl rfl, subX_eq rfl rfl, subX_own rfl rfl, subX_eq rfl (pureB_posL _)⟩
      | false =>
        have hfin := hend k (tw_stop _ M k hk hpk hb) (by omega)
        by_cases hn : n > (k : Int)
        · have hct : decide (n > (k : Int)) = true := decide_eq_true hn
          rw [hfin.1 hn]
          simp (maxSteps := 4000000) only [go_sem, Nat.reduceAdd, reduceCtorEq, Nat.reduceEqDiff, Nat.reduceLT, tk25, tz25, dz25, tk37, dz37, aBack, kAt, kLess, hb, hct, pureB_posL, aPos_def]
        · have hct : decide (n > (k : Int)) = false := decide_eq_false hn
          have hw : IntKind.i64.wrap ((k : Int) - n) = ((k - n.toNat : Nat) : Int) := by rw [wrap64 (by omega) (by omega)]; omega
          rw [hfin.2 (by omega)]
          simp (maxSteps := 4000000) only [go_sem, Nat.reduceAdd, reduceCtorEq, Nat.reduceEqDiff, Nat.reduceLT, tk25, tz25, dz25, tk37, dz37, aBack, kAt, kLess, hrl, hb, hct, hw, getD_pos, pureB_posL, aPos_def]
          exact ⟨⟨by omega, by omega⟩, by omega⟩
    · intro hpk
      have hpk : (M.take M.length).all (fun q => less q (p1, p2)) = true := hpk
      rw [List.take_of_length_le (Nat.le_refl M.length)] at hpk ⊢
      have hfin := hend M.length (by rw [List.take_of_length_le (Nat.le_refl M.length)]; exact tw_all _ M hpk) (Nat.le_refl _)
      rw [List.take_of_length_le (Nat.le_refl M.length)] at hfin
      by_cases hn : n > (M.length : Int)
      · have hct : decide (n > (M.length : Int)) = true := decide_eq_true hn
        rw [hfin.1 hn]
        simp (maxSteps := 4000000) only [go_sem, Nat.reduceAdd, Nat.reduceEqDiff, tk25, tz25, dz25, tk37, dz37, aBack, kAt, kLess, hct, aPos_def]
      · have hct : decide (n > (M.length : Int)) = false := decide_eq_false hn
        have hw : IntKind.i64.wrap ((M.length : Int) - n) = ((M.length - n.toNat : Nat) : Int) := by rw [wrap64 (by omega) (by omega)]; omega
        rw [hfin.2 (by omega)]
        simp (maxSteps := 4000000) only [go_sem, Nat.reduceAdd, Nat.reduceEqDiff, tk25, dz25, tk37, dz37, aBack, kAt, kLess, hct, hw, getD_pos, aPos_def]
        exact ⟨⟨by omega, by omega⟩, by omega⟩
end Go.Pg
namespace Go.Pg
open Go Go.Proofs

def kBack8 : C1 := C1.by [.id, .id, .id] (lCons (cFn 134 lAt) (lCons cPos2 (lOne (cInt .i64)))) (fun d => 1 ≤ d.2.2 ∧ fits 65536 65536 d.1.1) (fun d => aBack (wBack (marksOf d.1.2.2.1 d.1.2.1 d.1.2.2.2 d.1.1) d.2.1 d.2.2)) (fun _ => [])
theorem ok_back : C1OK Tryz.prog 107 kBack8 := C1OK.by (by kernel_rfl) (fun d h => calls_back d.1.1 d.1.2.1 d.1.2.2.1 d.1.2.2.2 d.2.1 d.2.2 h.1 h.2) (fun _ => rfl) (fun _ => rfl)

def mBack (r : (Int × Int) × Bool) (way : Int) : Mv × Bool := if r.2 = true then mTo r.1 way else mNone
def wBackM (ls : Ls) (p : Int × Int) (n : Int) (st e big : Bool) (way : Int) : Mv × Bool := if may ls p n = true then mBack (wBack (marksOf st e big ls) p n) way else mNone

set_option maxRecDepth 20000 in
set_option maxHeartbeats 4000000 in
theorem calls_WBack (ls : Ls) (p : Int × Int) (n : Int) (big : Bool) (hf : fits 65536 65536 ls) : CallsR Tryz.prog 79 [.sl 1 (ls.map .str), aPos p, .int .i64 n, .bool big] [] (aMove (wBackM ls p n true true big 0)) [] := by
  obtain ⟨p1, p2⟩ := p
  refine callsR_of (mrg := true) (dyn := []) (CtrOK.cons ok_fails (CtrOK.cons ok_StartsF (CtrOK.cons ok_back (CtrOK.nil _)))) mixed Tryz.func79 rfl (by simp [Tryz.ntmps79]) (by kernel_rfl) ?_
  rw [show Tryz.f79.results.toList = [.cell 8 49, .tmp 9] from by kernel_rfl]
  cases hm : may ls (p1, p2) n with
  | false =>
    rw [wBackM, if_neg (by rw [hm]; simp)]
    simp (maxSteps := 4000000) only [go_sem, Nat.reduceAdd, reduceCtorEq, Nat.reduceEqDiff, tk25, dz25, tk49, tz49, dz49, kFails, kStartsF, kBack8, aPos, aMove, aMv, mNone, hm]
  | true =>
    have hn : 1 ≤ n := by
      have := hm
      simp only [may, Bool.and_eq_true, decide_eq_true_eq] at this
      omega
    rw [wBackM, if_pos hm]
    generalize hr : wBack (marksOf true true big ls) (p1, p2) n = r
    obtain ⟨⟨r1, r2⟩, ok⟩ := r
    cases ok with
    | true =>
      simp (maxSteps := 4000000) only [go_sem, Nat.reduceAdd, reduceCtorEq, Nat.reduceEqDiff, Nat.reduceLeDiff, tk25, tz25, dz25, tk49, tz49, dz49, kFails, kStartsF, kBack8, aAt, aBack, aPos, aMove, aMv, mBack, mTo, hm, cAskFn_decS, hr]
      exact ⟨hn, hf⟩
    | false =>
      simp (maxSteps := 4000000) only [go_sem, Nat.reduceAdd, reduceCtorEq, Nat.reduceEqDiff, tk25, tz25, dz25, tk49, tz49, dz49, kFails, kStartsF, kBack8, aAt, aBack, aPos, aMove, aMv, mBack, mNone, hm, cAskFn_decS, hr]
      exact ⟨hn, hf⟩

set_option maxRecDepth 20000 in
set_option maxHeartbeats 4000000 in
theorem calls_WBackTail (ls : Ls) (p : Int × Int) (n : Int) (big : Bool) (hf : fits 65536 65536 ls) : CallsR Tryz.prog 81 [.sl 1 (ls.map .str), aPos p, .int .i64 n, .bool big] [] (aMove (wBackM ls p n false false big 1)) [] := by
  obtain ⟨p1, p2⟩ := p
  refine callsR_of (mrg := true) (dyn := []) (CtrOK.cons ok_fails (CtrOK.cons ok_EndsF (CtrOK.cons ok_back (CtrOK.nil _)))) mixed Tryz.func81 rfl (by simp [Tryz.ntmps81]) (by kernel_rfl) ?_
  rw [show Tryz.f81.results.toList = [.cell 8 49, .tmp 9] from by kernel_rfl]
  cases hm : may ls (p1, p2) n with
  | false =>
    rw [wBackM, if_neg (by rw [hm]; simp)]
    simp (maxSteps := 4000000) only [go_sem, Nat.reduceAdd, reduceCtorEq, Nat.reduceEqDiff, tk25, dz25, tk49, tz49, dz49, kFails, kEndsF, kBack8, aPos, aMove, aMv, mNone, hm]
  | true =>
    have hn : 1 ≤ n := by
      have := hm
      simp only [may, Bool.and_eq_true, decide_eq_true_eq] at this
      omega
    rw [wBackM, if_pos hm]
    generalize hr : wBack (marksOf false false big ls) (p1, p2) n = r
    obtain ⟨⟨r1, r2⟩, ok⟩ := r
    cases ok with
    | true =>
      simp (maxSteps := 4000000) only [go_sem, Nat.reduceAdd, reduceCtorEq, Nat.reduceEqDiff, Nat.reduceLeDiff, tk25, tz25, dz25, tk49, tz49, dz49, kFails, kEndsF, kBack8, aAt, aBack, aPos, aMove, aMv, mBack, mTo, hm, cAskFn_decE, hr]
      exact ⟨hn, hf⟩
    | false =>
      simp (maxSteps := 4000000) only [go_sem, Nat.reduceAdd, reduceCtorEq, Nat.reduceEqDiff, tk25, tz25, dz25, tk49, tz49, dz49, kFails, kEndsF, kBack8, aAt, aBack, aPos, aMove, aMv, mBack, mNone, hm, cAskFn_decE, hr]
      exact ⟨hn, hf⟩

/-! ### In order -/
theorem less_trans {a b c : Int × Int} (h1 : less a b = true) (h2 : less b c = true) : less a c = true := by
  unfold less at *
  simp only [Bool.or_eq_true, Bool.and_eq_true, decide_eq_true_eq, beq_iff_eq] at *
  omega

theorem marksIn_sorted (g : List UInt8 → Nat → Bool) (l : Nat) (s : List UInt8) : ∀ (k : Nat), (marksIn g l s k).Pairwise (fun a b => less a b = true) ∧ ∀ q ∈ marksIn g l s k, q.1 = l ∧ 0 ≤ q.2 ∧ q.2 < k := by
  intro k
  induction k with
  | zero => exact ⟨by simp [marksIn], by simp [marksIn]⟩
  | succ k ih =>
    rw [marksIn_succ]
    split
    · refine ⟨List.pairwise_append.2 ⟨ih.1, by simp, fun a ha b hb => ?_⟩, fun q hq => ?_⟩
      · obtain ⟨h1, h2, h3⟩ := ih.2 a ha
        rw [List.mem_singleton] at hb
        subst hb
        unfold less
        simp only [Bool.or_eq_true, Bool.and_eq_true, decide_eq_true_eq, beq_iff_eq]
        omega
      · rcases List.mem_append.1 hq with hq | hq
        · obtain ⟨h1, h2, h3⟩ := ih.2 q hq
          exact ⟨h1, h2, by omega⟩
        · rw [List.mem_singleton] at hq
          subst hq
          exact ⟨rfl, by simp, by simp; omega⟩
    · exact ⟨ih.1, fun q hq => by obtain ⟨h1, h2, h3⟩ := ih.2 q hq; exact ⟨h1, h2, by omega⟩⟩

theorem lineMarks_sorted (e : Bool) (g : List UInt8 → Nat → Bool) (l : Nat) (s : List UInt8) : (lineMarks e g l s).Pairwise (fun a b => less a b = true) ∧ ∀ q ∈ lineMarks e g l s, q.1 = l ∧ 0 ≤ q.2 ∧ q.2 ≤ s.length := by
  unfold lineMarks
  have h := marksIn_sorted g l s s.length
  split
  · next hs =>
    have : s = [] := by simp only [Bool.and_eq_true, beq_iff_eq] at hs; exact hs.2
    subst this
    simp [marksIn]
  · rw [List.nil_append]
    exact ⟨h.1, fun q hq => by obtain ⟨h1, h2, h3⟩ := h.2 q hq; exact ⟨h1, h2, by omega⟩⟩

theorem marksTo_sorted (e : Bool) (g : List UInt8 → Nat → Bool) (ls : Ls) : ∀ (n : Nat), (marksTo e g ls n).Pairwise (fun a b => less a b = true) ∧ ∀ q ∈ marksTo e g ls n, 0 ≤ q.1 ∧ q.1 < n ∧ 0 ≤ q.2 ∧ q.2 ≤ (ls.getD q.1.toNat []).length := by
  intro n
  induction n with
  | zero => exact ⟨by simp [marksTo], by simp [marksTo]⟩
  | succ n ih =>
    rw [marksTo_succ]
    have h := lineMarks_sorted e g n (ls.getD n [])
    refine ⟨List.pairwise_append.2 ⟨ih.1, h.1, fun a ha b hb => ?_⟩, fun q hq => ?_⟩
    · obtain ⟨h1, h2, h3⟩ := ih.2 a ha
      obtain ⟨h4, h5⟩ := h.2 b hb
      unfold less
      simp only [Bool.or_eq_true, Bool.and_eq_true, decide_eq_true_eq, beq_iff_eq]
      omega
    · rcases List.mem_append.1 hq with hq | hq
      · obtain ⟨h1, h2, h3⟩ := ih.2 q hq
        exact ⟨h1, by omega, h3⟩
      · obtain ⟨h1, h2, h3⟩ := h.2 q hq
        exact ⟨by omega, by omega, h2, by rw [h1]; simpa using h3⟩

theorem tw_filter (p : Int × Int) : ∀ (M : List (Int × Int)), M.Pairwise (fun a b => less a b = true) → tw M p = M.filter (fun q => less q p) := by
  intro M
  induction M with
  | nil => intro _; rfl
  | cons q M ih =>
    intro h
    rw [List.pairwise_cons] at h
    unfold tw at ih ⊢
    cases hq : less q p with
    | true => rw [List.takeWhile_cons, if_pos hq, List.filter_cons, if_pos hq, ih h.2]
    | false =>
      rw [List.takeWhile_cons, if_neg (by rw [hq]; simp), List.filter_cons, if_neg (by rw [hq]; simp)]
      symm
      rw [List.filter_eq_nil_iff]
      intro b hb hbp
      rw [less_trans (h.1 b hb) hbp] at hq
      cases hq

theorem mBack_nth (M : List (Int × Int)) (p : Int × Int) (n way : Int) (hs : M.Pairwise (fun a b => less a b = true)) (hn : 1 ≤ n) : mBack (wBack M p n) way = nth (ahead M p) n way := by
  have ha : ahead M p = (tw M p).reverse := by
    unfold ahead
    rw [List.filter_reverse, tw_filter p M hs]
  unfold wBack nth mBack
  rw [ha, List.length_reverse]
  split
  · rfl
  · next h =>
    rw [if_pos rfl]
    congr 1
    show (tw M p).getD ((tw M p).length - n.toNat) (0, 0) = _
    rw [getD_rev _ _ _ (by omega)]
    congr 1
    omega
end Go.Pg
namespace Go.Pg
open Go Go.Proofs

def endPos (ls : Ls) : Int × Int := ((ls.length : Int) - 1, (ls.getD (ls.length - 1) []).length)
/-- The last of those that have been passed. -/
def lastOf (l : List (Int × Int)) (p : Int × Int) : Int × Int := l.getLastD p
def stopAt (ls : Ls) (p s last : Int × Int) (op : Bool) : Mv × Bool := if (op && decide (s.1 > last.1)) = true then wEnd ls p last.1 else mTo s 0
def wNext (ls : Ls) (p : Int × Int) (n : Int) (big op : Bool) : Mv × Bool :=
  if may ls p n = true then
    let l := behind (marksOf true true big ls) p false
    if n ≤ l.length then stopAt ls p (l.getD (n - 1).toNat (0, 0)) (lastOf (l.take (n - 1).toNat) p) op
    else if (op && n - l.length == 1) = true then wEnd ls p (ls.length - 1) else mNone
  else mNone

theorem behind_split (M : List (Int × Int)) (p : Int × Int) (here : Bool) (k : Nat) : behind M p here = behind (M.take k) p here ++ behind (M.drop k) p here := by
  unfold behind
  rw [← List.filter_append, List.take_append_drop]

theorem lastOf_line {ls : Ls} {M : List (Int × Int)} {p : Int × Int} {e : Bool} {g : List UInt8 → Nat → Bool} (hM : M = marksTo e g ls ls.length) (hp : place ls p.1 p.2 = true) (k : Nat) (here : Bool) : 0 ≤ (lastOf (behind (M.take k) p here) p).1 ∧ (lastOf (behind (M.take k) p here) p).1 < ls.length := by
  have hp' : 0 ≤ p.1 ∧ p.1 < ls.length := by
    unfold place at hp
    simp only [Bool.and_eq_true, decide_eq_true_eq] at hp
    omega
  unfold lastOf
  rcases List.eq_nil_or_concat (behind (M.take k) p here) with h | ⟨l, q, h⟩
  · rw [h]; exact hp'
  · rw [h, List.concat_eq_append, List.getLastD_concat]
    have hq : q ∈ M := by
      have : q ∈ behind (M.take k) p here := by rw [h]; simp
      exact List.mem_of_mem_take (List.mem_filter.1 this).1
    rw [hM] at hq
    obtain ⟨h1, h2, _⟩ := (marksTo_sorted e g ls ls.length).2 q hq
    exact ⟨h1, h2⟩

set_option maxRecDepth 20000 in
set_option maxHeartbeats 8000000 in
theorem calls_Next (ls : Ls) (p : Int × Int) (n : Int) (big op : Bool) (hf : fits 65536 65536 ls) (hn9 : n ≤ 9223372036854775807) : CallsR Tryz.prog 78 [.sl 1 (ls.map .str), aPos p, .int .i64 n, .bool big, .bool op] [] (aMove (wNext ls p n big op)) [] := by
  obtain ⟨p1, p2⟩ := p
  refine callsR_of (mrg := true) (dyn := []) (CtrOK.cons ok_fails (CtrOK.cons ok_StartsF (CtrOK.cons ok_at (CtrOK.cons ok_Less (CtrOK.cons ok_wEnd (CtrOK.nil _)))))) mixed Tryz.func78 rfl (by simp [Tryz.ntmps78]) (by kernel_rfl) ?_
  rw [show Tryz.f78.results.toList = [.cell 10 49, .cell 11 4] from by kernel_rfl]
  cases hm : may ls (p1, p2) n with
  | false =>
    rw [wNext, if_neg (by rw [hm]; simp)]
    simp (maxSteps := 4000000) only [go_sem, Nat.reduceAdd, reduceCtorEq, Nat.reduceEqDiff, tk3, dz3, tk4, tz4, dz4, tk22, dz22, tk25, dz25, tk49, tz49, dz49, kFails, aPos, aMove, aMv, mNone, hm]
  | true =>
    have hmm := hm
    simp only [may, Bool.and_eq_true, decide_eq_true_eq] at hmm
    have hpp : 0 < ls.length := by
      have := hmm.1
      unfold place at this
      simp only [Bool.and_eq_true, decide_eq_true_eq] at this
      omega
    rw [wNext, if_pos hm]
    have hlast := fun (k : Nat) => lastOf_line (M := marksOf true true big ls) (p := (p1, p2)) (here := false) rfl hmm.1 k
    have hll := hf.1
    simp (maxSteps := 4000000) only [go_sem, Nat.reduceAdd, reduceCtorEq, Nat.reduceEqDiff, tk3, dz3, tz4, tk22, dz22, tk25, tz25, dz25, tz49, kFails, kStartsF, aAt, kAt, kLess, aPos, hm, cAskFn_decS]
    refine ⟨hf, ?_⟩
    generalize hM : marksOf true true big ls = M at hlast ⊢
    rw [mark_eq]
    refine rangG_intro M (fun p => [aPos p]) (0, 0) [(5, .ptr 0 1 1 0 0), (6, .ptr 1 2 1 0 0), (7, .ptr 2 1 1 0 0), (9, .ptr 3 1 1 0 0), (10, .ptr 4 5 1 0 0), (11, .ptr 5 1 1 0 0), (12, .ptr 6 2 1 0 0)]
      [.arr 22 1 [.sl 1 (ls.map .str)], .arr 25 2 [.agg [.int .i64 p1, .int .i64 p2]], .arr 3 1 [.int .i64 n], .arr 4 1 [.bool op], .arr 49 5 [.agg [.int .i64 0, .int .i64 0, .int .i64 0, .bool false, .int .i64 0]], .arr 4 1 [.bool false], .arr 25 2 [.agg [.int .i64 p1, .int .i64 p2]]]
      (fun k => ([(5, .ptr 0 1 1 0 0), (6, .ptr 1 2 1 0 0), (7, .ptr 2 1 1 0 0), (9, .ptr 3 1 1 0 0), (10, .ptr 4 5 1 0 0), (11, .ptr 5 1 1 0 0), (12, .ptr 6 2 1 0 0)], [.arr 22 1 [.sl 1 (ls.map .str)], .arr 25 2 [.agg [.int .i64 p1, .int .i64 p2]], .arr 3 1 [.int .i64 (n - (behind (M.take k) (p1, p2) false).length)], .arr 4 1 [.bool op], .arr 49 5 [.agg [.int .i64 0, .int .i64 0, .int .i64 0, .bool false, .int .i64 0]], .arr 4 1 [.bool false], .arr 25 2 [.agg [.int .i64 (lastOf (behind (M.take k) (p1, p2) false) (p1, p2)).1, .int .i64 (lastOf (behind (M.take k) (p1, p2) false) (p1, p2)).2]]]))
      (fun k => ((behind (M.take k) (p1, p2) false).length : Int) < n) rfl ?_ ?_ ?_ (fun _ => rfl) ?_ ?_
    · simp (maxSteps := 4000000) only [go_sem, Nat.reduceAdd, reduceCtorEq, Nat.reduceEqDiff]
      exact ⟨by decide, subX_eq rfl rfl, subX_eq rfl rfl, subX_eq rfl rfl, subX_eq rfl rfl, subX_eq rfl rfl, subX_eq rfl rfl, subX_eq rfl rfl⟩
    · simp (maxSteps := 4000000) only [go_sem, Nat.reduceAdd, reduceCtorEq, Nat.reduceEqDiff, Nat.reduceLT]
      exact ⟨by decide, subX_eq rfl rfl, subX_eq rfl rfl, subX_eq (by simp [behind]) rfl, subX_eq rfl rfl, subX_eq rfl rfl, subX_eq rfl rfl, subX_eq rfl rfl⟩
    · show ((behind [] (p1, p2) false).length : Int) < n
      simp only [behind, List.filter_nil, List.length_nil]
      omega
    · intro k hk hpk
      have hpk : ((behind (M.take k) (p1, p2) false).length : Int) < n := hpk
      have hsu := behind_succ M (p1, p2) false k hk
      have hib : isBehind (p1, p2) false (M.getD k (0, 0)) = less (p1, p2) ((M.getD k (0, 0)).1, (M.getD k (0, 0)).2) := by simp [isBehind]
      have hw : IntKind.i64.wrap (n - (behind (M.take k) (p1, p2) false).length - 1) = n - (behind (M.take k) (p1, p2) false).length - 1 := wrap64 (by omega) (by omega)
      obtain ⟨hl1, hl2⟩ := hlast k
      cases hb : isBehind (p1, p2) false (M.getD k (0, 0)) with
      | true =>
        rw [hib] at hb
        rw [hib, if_pos hb] at hsu
        by_cases hn : n - (behind (M.take k) (p1, p2) false).length - 1 > 0
        · have hct : decide (n - ((behind (M.take k) (p1, p2) false).length : Int) - 1 > 0) = true := decide_eq_true hn
          have hl' : lastOf (behind (M.take (k + 1)) (p1, p2) false) (p1, p2) = M.getD k (0, 0) := by rw [hsu]; unfold lastOf; simp
          simp (maxSteps := 4000000) only [go_sem, Nat.reduceAdd, reduceCtorEq, Nat.reduceEqDiff, Nat.reduceLT, tk3, dz3, tk4, dz4, tk22, dz22, tk25, tz25, dz25, tk49, tz49, dz49, kLess, kWEnd, aPos, aMove, aMv, hb, hw, hct]
          exact ⟨by rw [hsu, List.length_append, List.length_singleton]; omega, by decide, subX_eq rfl rfl, subX_eq rfl rfl, subX_eq (by rw [hsu, List.length_append, List.length_singleton]; congr 2; omega) rfl, subX_eq rfl rfl, subX_eq rfl rfl, subX_eq rfl rfl, subX_eq (by rw [hl']) rfl⟩
        · have hct : decide (n - ((behind (M.take k) (p1, p2) false).length : Int) - 1 > 0) = false := decide_eq_false hn
          have hsp := behind_split M (p1, p2) false (k + 1)
          have hlen : (behind (M.take (k + 1)) (p1, p2) false).length = n := by rw [hsu, List.length_append, List.length_singleton]; omega
          have h1 : n ≤ ((behind M (p1, p2) false).length : Int) := by rw [hsp, List.length_append]; omega
          have h2 : (behind M (p1, p2) false).getD (n - 1).toNat (0, 0) = M.getD k (0, 0) := by
            rw [hsp, hsu, List.append_assoc, List.getD_eq_getElem?_getD, List.getElem?_append_right (by omega), show (n - 1).toNat - (behind (M.take k) (p1, p2) false).length = 0 by omega]
            rfl
          have h3 : (behind M (p1, p2) false).take (n - 1).toNat = behind (M.take k) (p1, p2) false := by
            rw [hsp, hsu, List.append_assoc, List.take_append_of_le_length (by omega), List.take_of_length_le (by omega)]
          rw [if_pos h1, h2, h3]
          cases hop : (op && decide ((M.getD k (0, 0)).1 > (lastOf (behind (M.take k) (p1, p2) false) (p1, p2)).1)) with
          | true =>
            rw [stopAt, if_pos hop]
            simp (maxSteps := 4000000) only [go_sem, Nat.reduceAdd, reduceCtorEq, Nat.reduceEqDiff, tk3, dz3, tk4, dz4, tk22, dz22, tk25, tz25, dz25, tk49, dz49, kWEnd, aPos, aMove, aMv, hb, hw, hct, hop]
            exact ⟨hl1, hl2⟩
          | false =>
            rw [stopAt, if_neg (by rw [hop]; simp)]
            simp (maxSteps := 4000000) only [go_sem, Nat.reduceAdd, Nat.reduceEqDiff, Nat.reduceLeDiff, tk3, dz3, tk4, dz4, tk25, tz25, dz25, tk49, tz49, dz49, kWEnd, aPos, aMove, aMv, mTo, hb, hw, hct, hop]
      | false =>
        rw [hib] at hb
        rw [hib, if_neg (by rw [hb]; simp)] at hsu
        simp (maxSteps := 4000000) only [go_sem, Nat.reduceAdd, reduceCtorEq, Nat.reduceEqDiff, Nat.reduceLT, tk3, dz3, tk4, dz4, tk22, dz22, tk25, tz25, dz25, tk49, tz49, dz49, kLess, kWEnd, aPos, aMove, aMv, hb]
        exact ⟨by rw [hsu]; exact hpk, by decide, subX_eq rfl rfl, subX_eq rfl rfl, subX_eq (by rw [hsu]) rfl, subX_eq rfl rfl, subX_eq rfl rfl, subX_eq rfl rfl, subX_eq (by rw [hsu]) rfl⟩
    · intro hpk
      have hpk : ((behind (M.take M.length) (p1, p2) false).length : Int) < n := hpk
      rw [List.take_of_length_le (Nat.le_refl M.length)] at hpk ⊢
      rw [if_neg (by omega)]
      cases hop : (op && n - ((behind M (p1, p2) false).length : Int) == 1) with
      | true =>
        have hw2 : IntKind.i64.wrap ((ls.length : Int) - 1) = (ls.length : Int) - 1 := wrap64 (by omega) (by omega)
        rw [if_pos rfl]
        simp (maxSteps := 4000000) only [go_sem, Nat.reduceAdd, Nat.reduceEqDiff, tk3, dz3, tk4, dz4, tk22, dz22, tk25, dz25, tk49, dz49, kLess, kWEnd, aMove, aMv, hop, hw2]
        exact ⟨by omega, by omega⟩
      | false =>
        rw [if_neg (by simp)]
        simp (maxSteps := 4000000) only [go_sem, Nat.reduceAdd, Nat.reduceEqDiff, tk3, dz3, tk4, dz4, tk49, tz49, dz49, kLess, kWEnd, aMove, aMv, mNone, hop]
end Go.Pg
