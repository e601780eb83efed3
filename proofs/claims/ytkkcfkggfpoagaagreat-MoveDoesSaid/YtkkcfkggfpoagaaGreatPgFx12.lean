/- The document's motions within a line, by lines. -/
import Derived.Test.YtkkcfkggfpoagaaGreatPgBs
import Derived.Test.YtkkcfkggfpoagaaGreatPgFx5
import Derived.Test.YtkkcfkggfpoagaaGreatPgFx11
set_option linter.unusedVariables false
set_option linter.unusedSimpArgs false
namespace Go.Pg
open Go Go.Proofs

theorem calls_Rlast (s : List UInt8) (hs : s.length ≤ 140737488355328) : CallsR Tryz.prog 87 [.str s] [] (.int .i64 (max ((s.length : Int) - 1) 0)) [] := by
  refine callsR_of (mrg := true) (dyn := []) (CtrOK.nil _) mixed Tryz.func87 rfl (by simp [Tryz.ntmps87]) (by kernel_rfl) ?_
  rw [show Tryz.f87.results.toList = [.tmp 2] from by kernel_rfl]
  have w : IntKind.i64.wrap ((s.length : Int) - 1) = (s.length : Int) - 1 := wrap64 (by omega) (by omega)
  simp (maxSteps := 4000000) only [go_sem, reduceCtorEq, Nat.reduceEqDiff, tk9, w]
def kRLast : C1 := C1.by [.id] (lOne cStr) (fun d => d.length ≤ 140737488355328) (fun d => .int .i64 (max ((d.length : Int) - 1) 0)) (fun _ => [])
theorem ok_Rlast : C1OK Tryz.prog 87 kRLast := C1OK.by (by kernel_rfl) (fun d h => calls_Rlast d h) (fun _ => rfl) (fun _ => rfl)
theorem byte_lit0 (b : UInt8) (k : Int) (c : UInt8) (hc : (c.toNat : Int) = k) (h : b = c) : ((b.toNat : Int) == k) = true := by
  rw [beq_iff_eq, h, hc]
theorem calls_Rline (ls : Ls) (l : Int) (j : Bool) (hf : okText ls) : CallsR Tryz.prog 95 [.sl 1 (ls.map .str), .int .i64 l, .bool j] [] (aMove (lineM ls l j)) [] := by
  refine callsR_of (mrg := true) (dyn := []) (CtrOK.cons ok_none (CtrOK.cons ok_RFirst (CtrOK.nil _))) mixed Tryz.func95 rfl (by simp [Tryz.ntmps95]) (by kernel_rfl) ?_
  rw [show Tryz.f95.results.toList = [.cell 6 49, .tmp 7] from by kernel_rfl]
  have h6 := fits_getD hf l.toNat
  unfold lineM
  by_cases h : l < 0
  · have c1 : decide (l < 0) = true := decide_eq_true h
    rw [if_pos (.inl h)]
    simp (maxSteps := 4000000) only [go_sem, Nat.reduceAdd, reduceCtorEq, Nat.reduceEqDiff, tk22, tk49, tz49, dz49, kNone, aMove, aMv, mNone, c1]
  · have c1 : decide (l < 0) = false := decide_eq_false h
    by_cases h2 : l ≥ ls.length
    · have c2 : decide (l ≥ (ls.length : Int)) = true := decide_eq_true h2
      rw [if_pos (.inr h2)]
      simp (maxSteps := 4000000) only [go_sem, Nat.reduceAdd, reduceCtorEq, Nat.reduceEqDiff, tk22, tk49, tz49, dz49, kNone, aMove, aMv, mNone, c1, c2]
    · have c2 : decide (l ≥ (ls.length : Int)) = false := decide_eq_false h2
      rw [if_neg (by omega)]
      simp (maxSteps := 4000000) only [go_sem, Nat.reduceAdd, reduceCtorEq, Nat.reduceEqDiff, Nat.reduceLeDiff, tk9, dz9, tk22, tk25, tz25, tk49, tz49, dz49, kFirst, aMove, aMv, firstM, c1, c2]
      (repeat' first | apply And.intro | rfl | omega)
def kRLine : C1 := C1.by [.sl 1 [], .id, .id] (lCons cStrs (lCons (cInt .i64) (lOne cBool))) (fun d => okText d.1) (fun d => aMove (lineM d.1 d.2.1 d.2.2)) (fun _ => [])
theorem ok_Rline : C1OK Tryz.prog 95 kRLine := C1OK.by (by kernel_rfl) (fun d h => calls_Rline d.1 d.2.1 d.2.2 h) (fun _ => rfl) (fun _ => rfl)
set_option maxHeartbeats 4000000 in
theorem calls_RLeft (ls : Ls) (p : Int × Int) (n : Int) (hf : okText ls) (hn : n ≤ 9223372036854775807) : CallsR Tryz.prog 44 [.sl 1 (ls.map .str), aPos p, .int .i64 n] [] (aMove (leftP ls p n)) [] := by
  refine callsR_of (mrg := true) (dyn := []) (CtrOK.cons ok_may (CtrOK.cons ok_none (CtrOK.cons ok_to (CtrOK.cons ok_capped (CtrOK.nil _))))) mixed Tryz.func44 rfl (by simp [Tryz.ntmps44]) (by kernel_rfl) ?_
  rw [show Tryz.f44.results.toList = [.cell 6 49, .tmp 7] from by kernel_rfl]
  obtain ⟨p1, p2⟩ := p
  have h6 := fits_getD hf p1.toNat
  have h8 := hf.1
  unfold leftP whenMay
  cases hm : may ls (p1, p2) n with
  | false =>
    rw [if_neg (by simp)]
    simp (maxSteps := 4000000) only [go_sem, Nat.reduceAdd, reduceCtorEq, Nat.reduceEqDiff, tk3, tk25, dz25, tk49, tz49, dz49, kMay, kNone, kTo, kCapped, aPos, aMove, aMv, mNone, hm]
  | true =>
    rw [if_pos rfl]
    have hi := (may_iff _ _ _).1 hm
    dsimp only at hi
    unfold orNone
    by_cases h : p2 = 0
    · have c1 : (p2 == 0) = true := beq_iff_eq.2 h
      rw [if_pos h]
      simp (maxSteps := 4000000) only [go_sem, Nat.reduceAdd, reduceCtorEq, Nat.reduceEqDiff, tk3, tk25, dz25, tk49, tz49, dz49, kMay, kNone, kTo, kCapped, aPos, aMove, aMv, mNone, hm, c1]
    · have c1 : (p2 == 0) = false := beq_eq_false_iff_ne.2 h
      have w1 : IntKind.i64.wrap (p2 - min n 1073741824) = p2 - min n 1073741824 := wrap64 (by omega) (by omega)
      have e1 : max (p2 - min n 1073741824) 0 = p2 - min n p2 := by omega
      rw [if_neg h]
      simp (maxSteps := 4000000) only [go_sem, Nat.reduceAdd, reduceCtorEq, Nat.reduceEqDiff, tk3, tk25, dz25, tk49, tz49, dz49, kMay, kNone, kTo, kCapped, aPos, aMove, aMv, mNone, hm, toC, mTo, c1, w1, e1]
theorem ok_RLeft : C1OK Tryz.prog 44 (kMvN leftP) := C1OK.by (by kernel_rfl) (fun d h => calls_RLeft d.1 d.2.1 d.2.2 h.1 h.2) (fun _ => rfl) (fun _ => rfl)
set_option maxHeartbeats 4000000 in
theorem calls_RRight (ls : Ls) (p : Int × Int) (n : Int) (b : Bool) (hf : okText ls) (hn : n ≤ 9223372036854775807) : CallsR Tryz.prog 45 [.sl 1 (ls.map .str), aPos p, .int .i64 n, .bool b] [] (aMove (rightP ls p n b)) [] := by
  refine callsR_of (mrg := true) (dyn := []) (CtrOK.cons ok_may (CtrOK.cons ok_none (CtrOK.cons ok_to (CtrOK.cons ok_capped (CtrOK.nil _))))) mixed Tryz.func45 rfl (by simp [Tryz.ntmps45]) (by kernel_rfl) ?_
  rw [show Tryz.f45.results.toList = [.cell 8 49, .tmp 9] from by kernel_rfl]
  obtain ⟨p1, p2⟩ := p
  have h6 := fits_getD hf p1.toNat
  have h8 := hf.1
  unfold rightP whenMay
  cases hm : may ls (p1, p2) n with
  | false =>
    rw [if_neg (by simp)]
    simp (maxSteps := 4000000) only [go_sem, Nat.reduceAdd, reduceCtorEq, Nat.reduceEqDiff, tk25, dz25, tk49, tz49, dz49, kMay, kNone, kTo, kCapped, aPos, aMove, aMv, mNone, hm]
  | true =>
    rw [if_pos rfl]
    have hi := (may_iff _ _ _).1 hm
    dsimp only at hi
    unfold orNone
    obtain ⟨s, hs⟩ : ∃ s, s = ls.getD p1.toNat [] := ⟨_, rfl⟩
    rw [← hs] at h6 hi ⊢
    have w0 : IntKind.i64.wrap ((s.length : Int) - 1) = (s.length : Int) - 1 := wrap64 (by omega) (by omega)
    have w1 : IntKind.i64.wrap (p2 + min n 1073741824) = p2 + min n 1073741824 := wrap64 (by omega) (by omega)
    have hin : 0 ≤ p1 ∧ p1.toNat < ls.length := ⟨hi.2.1, hi.2.2.1⟩
    cases b with
    | true =>
      simp only [if_true, Int.sub_zero]
      by_cases hl : s.length = 0
      · have c1 : ((s.length : Int) == 0) = true := by rw [hl]; rfl
        rw [if_pos (.inl hl)]
        simp (maxSteps := 4000000) only [go_sem, Nat.reduceAdd, reduceCtorEq, Nat.reduceEqDiff, tk3, tk9, dz9, tk22, tk25, dz25, tk49, tz49, dz49, kMay, kNone, kTo, kCapped, aPos, aMove, aMv, mNone, hm, ←hs, c1]
        all_goals (repeat' first | exact hin | exact hin.1 | exact hin.2 | apply And.intro)
      · have c1 : ((s.length : Int) == 0) = false := beq_eq_false_iff_ne.2 (by omega)
        by_cases h : p2 ≥ (s.length : Int)
        · have c2 : decide (p2 ≥ (s.length : Int)) = true := decide_eq_true h
          rw [if_pos (.inr h)]
          simp (maxSteps := 4000000) only [go_sem, Nat.reduceAdd, reduceCtorEq, Nat.reduceEqDiff, tk3, tk9, dz9, tk22, tk25, dz25, tk49, tz49, dz49, kMay, kNone, kTo, kCapped, aPos, aMove, aMv, mNone, hm, ←hs, c1, c2]
          all_goals (repeat' first | exact hin | exact hin.1 | exact hin.2 | apply And.intro)
        · have c2 : decide (p2 ≥ (s.length : Int)) = false := decide_eq_false h
          have e1 : min (p2 + min n 1073741824) (s.length : Int) = p2 + min n ((s.length : Int) - p2) := by omega
          rw [if_neg (by omega)]
          simp (maxSteps := 4000000) only [go_sem, Nat.reduceAdd, reduceCtorEq, Nat.reduceEqDiff, tk3, tk9, dz9, tk22, tk25, dz25, tk49, tz49, dz49, kMay, kNone, kTo, kCapped, aPos, aMove, aMv, mNone, hm, toC, mTo, ←hs, c1, c2, w1, e1]
          all_goals (repeat' first | exact hin | exact hin.1 | exact hin.2 | apply And.intro)
    | false =>
      simp only [Bool.false_eq_true, if_false]
      by_cases hl : s.length = 0
      · have c1 : ((s.length : Int) == 0) = true := by rw [hl]; rfl
        rw [if_pos (.inl hl)]
        simp (maxSteps := 4000000) only [go_sem, Nat.reduceAdd, reduceCtorEq, Nat.reduceEqDiff, tk3, tk9, dz9, tk22, tk25, dz25, tk49, tz49, dz49, kMay, kNone, kTo, kCapped, aPos, aMove, aMv, mNone, hm, ←hs, c1, w0]
        all_goals (repeat' first | exact hin | exact hin.1 | exact hin.2 | apply And.intro)
      · have c1 : ((s.length : Int) == 0) = false := beq_eq_false_iff_ne.2 (by omega)
        by_cases h : p2 ≥ (s.length : Int) - 1
        · have c2 : decide (p2 ≥ (s.length : Int) - 1) = true := decide_eq_true h
          rw [if_pos (.inr h)]
          simp (maxSteps := 4000000) only [go_sem, Nat.reduceAdd, reduceCtorEq, Nat.reduceEqDiff, tk3, tk9, dz9, tk22, tk25, dz25, tk49, tz49, dz49, kMay, kNone, kTo, kCapped, aPos, aMove, aMv, mNone, hm, ←hs, c1, c2, w0]
          all_goals (repeat' first | exact hin | exact hin.1 | exact hin.2 | apply And.intro)
        · have c2 : decide (p2 ≥ (s.length : Int) - 1) = false := decide_eq_false h
          have e1 : min (p2 + min n 1073741824) ((s.length : Int) - 1) = p2 + min n ((s.length : Int) - 1 - p2) := by omega
          rw [if_neg (by omega)]
          simp (maxSteps := 4000000) only [go_sem, Nat.reduceAdd, reduceCtorEq, Nat.reduceEqDiff, tk3, tk9, dz9, tk22, tk25, dz25, tk49, tz49, dz49, kMay, kNone, kTo, kCapped, aPos, aMove, aMv, mNone, hm, toC, mTo, ←hs, c1, c2, w0, w1, e1]
          all_goals (repeat' first | exact hin | exact hin.1 | exact hin.2 | apply And.intro)
theorem ok_RRight : C1OK Tryz.prog 45 (kMvNB rightP) := C1OK.by (by kernel_rfl) (fun d h => calls_RRight d.1 d.2.1 d.2.2.1 d.2.2.2 h.1 h.2) (fun _ => rfl) (fun _ => rfl)
set_option maxHeartbeats 4000000 in
theorem calls_RZero (ls : Ls) (p : Int × Int) (hf : okText ls) : CallsR Tryz.prog 46 [.sl 1 (ls.map .str), aPos p] [] (aMove (zeroP ls p)) [] := by
  refine callsR_of (mrg := true) (dyn := []) (CtrOK.cons ok_may (CtrOK.cons ok_none (CtrOK.cons ok_to (CtrOK.nil _)))) mixed Tryz.func46 rfl (by simp [Tryz.ntmps46]) (by kernel_rfl) ?_
  rw [show Tryz.f46.results.toList = [.cell 4 49, .tmp 5] from by kernel_rfl]
  obtain ⟨p1, p2⟩ := p
  have h6 := fits_getD hf p1.toNat
  have h8 := hf.1
  unfold zeroP whenMay
  cases hm : may ls (p1, p2) 1 with
  | false =>
    rw [if_neg (by simp)]
    simp (maxSteps := 4000000) only [go_sem, Nat.reduceAdd, reduceCtorEq, Nat.reduceEqDiff, tk25, dz25, tk49, tz49, dz49, kMay, kNone, kTo, aPos, aMove, aMv, mNone, hm]
  | true =>
    rw [if_pos rfl]
    have hi := (may_iff _ _ _).1 hm
    dsimp only at hi
    simp (maxSteps := 4000000) only [go_sem, Nat.reduceAdd, reduceCtorEq, Nat.reduceEqDiff, tk3, tk25, dz25, tk49, tz49, dz49, kMay, kNone, kTo, aPos, aMove, aMv, mNone, hm, toC, mTo]
theorem ok_RZero : C1OK Tryz.prog 46 (kMv0 zeroP) := C1OK.by (by kernel_rfl) (fun d h => calls_RZero d.1 d.2 h) (fun _ => rfl) (fun _ => rfl)
set_option maxHeartbeats 4000000 in
theorem calls_RFirstOf (ls : Ls) (p : Int × Int) (hf : okText ls) : CallsR Tryz.prog 47 [.sl 1 (ls.map .str), aPos p] [] (aMove (firstP ls p)) [] := by
  refine callsR_of (mrg := true) (dyn := []) (CtrOK.cons ok_may (CtrOK.cons ok_none (CtrOK.cons ok_to (CtrOK.cons ok_RFirst (CtrOK.nil _))))) mixed Tryz.func47 rfl (by simp [Tryz.ntmps47]) (by kernel_rfl) ?_
  rw [show Tryz.f47.results.toList = [.cell 4 49, .tmp 5] from by kernel_rfl]
  obtain ⟨p1, p2⟩ := p
  have h6 := fits_getD hf p1.toNat
  have h8 := hf.1
  unfold firstP whenMay
  cases hm : may ls (p1, p2) 1 with
  | false =>
    rw [if_neg (by simp)]
    simp (maxSteps := 4000000) only [go_sem, Nat.reduceAdd, reduceCtorEq, Nat.reduceEqDiff, tk25, dz25, tk49, tz49, dz49, kMay, kNone, kTo, kFirst, aPos, aMove, aMv, mNone, hm]
  | true =>
    rw [if_pos rfl]
    have hi := (may_iff _ _ _).1 hm
    dsimp only at hi
    simp (maxSteps := 4000000) only [go_sem, Nat.reduceAdd, reduceCtorEq, Nat.reduceEqDiff, tk3, tk9, dz9, tk22, tk25, dz25, tk49, tz49, dz49, kMay, kNone, kTo, kFirst, aPos, aMove, aMv, mNone, hm, toC, mTo]
    (repeat' first | exact hi.2.1 | exact hi.2.2.1 | apply And.intro | omega)
theorem ok_RFirstOf : C1OK Tryz.prog 47 (kMv0 firstP) := C1OK.by (by kernel_rfl) (fun d h => calls_RFirstOf d.1 d.2 h) (fun _ => rfl) (fun _ => rfl)
set_option maxHeartbeats 4000000 in
theorem calls_RLast (ls : Ls) (p : Int × Int) (n : Int) (hf : okText ls) (hn : n ≤ 9223372036854775807) : CallsR Tryz.prog 48 [.sl 1 (ls.map .str), aPos p, .int .i64 n] [] (aMove (lastP ls p n)) [] := by
  refine callsR_of (mrg := true) (dyn := []) (CtrOK.cons ok_may (CtrOK.cons ok_none (CtrOK.cons ok_capped (CtrOK.cons ok_Rlast (CtrOK.nil _))))) mixed Tryz.func48 rfl (by simp [Tryz.ntmps48]) (by kernel_rfl) ?_
  rw [show Tryz.f48.results.toList = [.cell 6 49, .tmp 7] from by kernel_rfl]
  obtain ⟨p1, p2⟩ := p
  have h6 := fits_getD hf p1.toNat
  have h8 := hf.1
  unfold lastP whenMay
  cases hm : may ls (p1, p2) n with
  | false =>
    rw [if_neg (by simp)]
    simp (maxSteps := 4000000) only [go_sem, Nat.reduceAdd, reduceCtorEq, Nat.reduceEqDiff, tk3, tk22, tk25, dz25, tk49, tz49, dz49, kMay, kNone, kCapped, kRLast, aPos, aMove, aMv, mNone, hm]
  | true =>
    rw [if_pos rfl]
    have hi := (may_iff _ _ _).1 hm
    dsimp only at hi
    unfold orNone
    have h7 := fits_getD hf (p1 + n - 1).toNat
    have w1 : IntKind.i64.wrap (p1 + min n 1073741824) = p1 + min n 1073741824 := wrap64 (by omega) (by omega)
    have w2 : IntKind.i64.wrap (p1 + min n 1073741824 - 1) = p1 + min n 1073741824 - 1 := wrap64 (by omega) (by omega)
    by_cases h : n > ls.length - p1
    · have c1 : decide (p1 + min n 1073741824 - 1 ≥ (ls.length : Int)) = true := decide_eq_true (by omega)
      rw [if_pos h]
      simp (maxSteps := 4000000) only [go_sem, Nat.reduceAdd, reduceCtorEq, Nat.reduceEqDiff, tk3, tk22, tk25, dz25, tk49, tz49, dz49, kMay, kNone, kCapped, kRLast, aPos, aMove, aMv, mNone, hm, w1, w2, c1]
    · have c1 : decide (p1 + min n 1073741824 - 1 ≥ (ls.length : Int)) = false := decide_eq_false (by omega)
      have w3 : IntKind.i64.wrap (p1 + n) = p1 + n := wrap64 (by omega) (by omega)
      have w4 : IntKind.i64.wrap (p1 + n - 1) = p1 + n - 1 := wrap64 (by omega) (by omega)
      rw [if_neg h]
      simp (maxSteps := 4000000) only [go_sem, Nat.reduceAdd, reduceCtorEq, Nat.reduceEqDiff, Nat.reduceLeDiff, tk3, tk9, dz9, tk22, tk25, tz25, dz25, tk49, tz49, dz49, kMay, kNone, kCapped, kRLast, aPos, aMove, aMv, mNone, hm, w1, w2, w3, w4, c1]
      (repeat' first | apply And.intro | omega)
theorem ok_RLast : C1OK Tryz.prog 48 (kMvN lastP) := C1OK.by (by kernel_rfl) (fun d h => calls_RLast d.1 d.2.1 d.2.2 h.1 h.2) (fun _ => rfl) (fun _ => rfl)
set_option maxHeartbeats 4000000 in
theorem calls_RColumn (ls : Ls) (p : Int × Int) (n : Int) (hf : okText ls) (hn : n ≤ 9223372036854775807) : CallsR Tryz.prog 49 [.sl 1 (ls.map .str), aPos p, .int .i64 n] [] (aMove (colP ls p n)) [] := by
  refine callsR_of (mrg := true) (dyn := []) (CtrOK.cons ok_may (CtrOK.cons ok_none (CtrOK.cons ok_capped (CtrOK.cons ok_Rlast (CtrOK.nil _))))) mixed Tryz.func49 rfl (by simp [Tryz.ntmps49]) (by kernel_rfl) ?_
  rw [show Tryz.f49.results.toList = [.cell 6 49, .tmp 7] from by kernel_rfl]
  obtain ⟨p1, p2⟩ := p
  have h6 := fits_getD hf p1.toNat
  have h8 := hf.1
  unfold colP whenMay
  cases hm : may ls (p1, p2) n with
  | false =>
    rw [if_neg (by simp)]
    simp (maxSteps := 4000000) only [go_sem, Nat.reduceAdd, reduceCtorEq, Nat.reduceEqDiff, tk25, dz25, tk49, tz49, dz49, kMay, kNone, kCapped, kRLast, aPos, aMove, aMv, mNone, hm]
  | true =>
    rw [if_pos rfl]
    have hi := (may_iff _ _ _).1 hm
    dsimp only at hi
    have w1 : IntKind.i64.wrap (min n 1073741824 - 1) = min n 1073741824 - 1 := wrap64 (by omega) (by omega)
    simp (maxSteps := 4000000) only [go_sem, Nat.reduceAdd, reduceCtorEq, Nat.reduceEqDiff, Nat.reduceLeDiff, tk3, tk9, dz9, tk22, tk25, tz25, dz25, tk49, tz49, dz49, kMay, kNone, kCapped, kRLast, aPos, aMove, aMv, mNone, hm, w1]
    (repeat' first | exact hi.2.1 | exact hi.2.2.1 | apply And.intro | omega)
theorem ok_RColumn : C1OK Tryz.prog 49 (kMvN colP) := C1OK.by (by kernel_rfl) (fun d h => calls_RColumn d.1 d.2.1 d.2.2 h.1 h.2) (fun _ => rfl) (fun _ => rfl)
set_option maxHeartbeats 4000000 in
theorem calls_RPlus (ls : Ls) (p : Int × Int) (n : Int) (hf : okText ls) (hn : n ≤ 9223372036854775807) : CallsR Tryz.prog 57 [.sl 1 (ls.map .str), aPos p, .int .i64 n] [] (aMove (plusP ls p n)) [] := by
  refine callsR_of (mrg := true) (dyn := []) (CtrOK.cons ok_may (CtrOK.cons ok_none (CtrOK.cons ok_capped (CtrOK.cons ok_Rline (CtrOK.nil _))))) mixed Tryz.func57 rfl (by simp [Tryz.ntmps57]) (by kernel_rfl) ?_
  rw [show Tryz.f57.results.toList = [.cell 6 49, .tmp 7] from by kernel_rfl]
  obtain ⟨p1, p2⟩ := p
  have h6 := fits_getD hf p1.toNat
  have h8 := hf.1
  unfold plusP whenMay
  cases hm : may ls (p1, p2) n with
  | false =>
    rw [if_neg (by simp)]
    simp (maxSteps := 4000000) only [go_sem, Nat.reduceAdd, reduceCtorEq, Nat.reduceEqDiff, tk25, dz25, tk49, tz49, dz49, kMay, kNone, kCapped, kRLine, aPos, aMove, aMv, mNone, hm]
  | true =>
    rw [if_pos rfl]
    have hi := (may_iff _ _ _).1 hm
    dsimp only at hi
    have w1 : IntKind.i64.wrap (p1 + min n 1073741824) = p1 + min n 1073741824 := wrap64 (by omega) (by omega)
    have e1 : lineM ls (p1 + n) false = lineM ls (p1 + min n 1073741824) false := by
      by_cases h : n ≤ 1073741824
      · rw [show min n 1073741824 = n by omega]
      · unfold lineM
        rw [if_pos (by omega), if_pos (by omega)]
    rw [e1]
    simp (maxSteps := 4000000) only [go_sem, Nat.reduceAdd, reduceCtorEq, Nat.reduceEqDiff, tk3, tk25, dz25, tk49, tz49, dz49, kMay, kNone, kCapped, kRLine, aPos, aMove, aMv, mNone, hm, w1]
    exact hf
theorem ok_RPlus : C1OK Tryz.prog 57 (kMvN plusP) := C1OK.by (by kernel_rfl) (fun d h => calls_RPlus d.1 d.2.1 d.2.2 h.1 h.2) (fun _ => rfl) (fun _ => rfl)
set_option maxHeartbeats 4000000 in
theorem calls_RMinus (ls : Ls) (p : Int × Int) (n : Int) (hf : okText ls) (hn : n ≤ 9223372036854775807) : CallsR Tryz.prog 58 [.sl 1 (ls.map .str), aPos p, .int .i64 n] [] (aMove (minusP ls p n)) [] := by
  refine callsR_of (mrg := true) (dyn := []) (CtrOK.cons ok_may (CtrOK.cons ok_none (CtrOK.cons ok_capped (CtrOK.cons ok_Rline (CtrOK.nil _))))) mixed Tryz.func58 rfl (by simp [Tryz.ntmps58]) (by kernel_rfl) ?_
  rw [show Tryz.f58.results.toList = [.cell 6 49, .tmp 7] from by kernel_rfl]
  obtain ⟨p1, p2⟩ := p
  have h6 := fits_getD hf p1.toNat
  have h8 := hf.1
  unfold minusP whenMay
  cases hm : may ls (p1, p2) n with
  | false =>
    rw [if_neg (by simp)]
    simp (maxSteps := 4000000) only [go_sem, Nat.reduceAdd, reduceCtorEq, Nat.reduceEqDiff, tk25, dz25, tk49, tz49, dz49, kMay, kNone, kCapped, kRLine, aPos, aMove, aMv, mNone, hm]
  | true =>
    rw [if_pos rfl]
    have hi := (may_iff _ _ _).1 hm
    dsimp only at hi
    have w1 : IntKind.i64.wrap (p1 - min n 1073741824) = p1 - min n 1073741824 := wrap64 (by omega) (by omega)
    have e1 : lineM ls (p1 - n) false = lineM ls (p1 - min n 1073741824) false := by
      by_cases h : n ≤ 1073741824
      · rw [show min n 1073741824 = n by omega]
      · unfold lineM
        rw [if_pos (by omega), if_pos (by omega)]
    rw [e1]
    simp (maxSteps := 4000000) only [go_sem, Nat.reduceAdd, reduceCtorEq, Nat.reduceEqDiff, tk3, tk25, dz25, tk49, tz49, dz49, kMay, kNone, kCapped, kRLine, aPos, aMove, aMv, mNone, hm, w1]
    exact hf
theorem ok_RMinus : C1OK Tryz.prog 58 (kMvN minusP) := C1OK.by (by kernel_rfl) (fun d h => calls_RMinus d.1 d.2.1 d.2.2 h.1 h.2) (fun _ => rfl) (fun _ => rfl)
set_option maxHeartbeats 4000000 in
theorem calls_RUnder (ls : Ls) (p : Int × Int) (n : Int) (hf : okText ls) (hn : n ≤ 9223372036854775807) : CallsR Tryz.prog 59 [.sl 1 (ls.map .str), aPos p, .int .i64 n] [] (aMove (underP ls p n)) [] := by
  refine callsR_of (mrg := true) (dyn := []) (CtrOK.cons ok_may (CtrOK.cons ok_none (CtrOK.cons ok_capped (CtrOK.cons ok_Rline (CtrOK.nil _))))) mixed Tryz.func59 rfl (by simp [Tryz.ntmps59]) (by kernel_rfl) ?_
  rw [show Tryz.f59.results.toList = [.cell 6 49, .tmp 7] from by kernel_rfl]
  obtain ⟨p1, p2⟩ := p
  have h6 := fits_getD hf p1.toNat
  have h8 := hf.1
  unfold underP whenMay
  cases hm : may ls (p1, p2) n with
  | false =>
    rw [if_neg (by simp)]
    simp (maxSteps := 4000000) only [go_sem, Nat.reduceAdd, reduceCtorEq, Nat.reduceEqDiff, tk25, dz25, tk49, tz49, dz49, kMay, kNone, kCapped, kRLine, aPos, aMove, aMv, mNone, hm]
  | true =>
    rw [if_pos rfl]
    have hi := (may_iff _ _ _).1 hm
    dsimp only at hi
    have w1 : IntKind.i64.wrap (p1 + min n 1073741824) = p1 + min n 1073741824 := wrap64 (by omega) (by omega)
    have w2 : IntKind.i64.wrap (p1 + min n 1073741824 - 1) = p1 + min n 1073741824 - 1 := wrap64 (by omega) (by omega)
    have e1 : lineM ls (p1 + n - 1) false = lineM ls (p1 + min n 1073741824 - 1) false := by
      by_cases h : n ≤ 1073741824
      · rw [show min n 1073741824 = n by omega]
      · unfold lineM
        rw [if_pos (by omega), if_pos (by omega)]
    rw [e1]
    simp (maxSteps := 4000000) only [go_sem, Nat.reduceAdd, reduceCtorEq, Nat.reduceEqDiff, tk3, tk25, dz25, tk49, tz49, dz49, kMay, kNone, kCapped, kRLine, aPos, aMove, aMv, mNone, hm, w1, w2]
    exact hf
theorem ok_RUnder : C1OK Tryz.prog 59 (kMvN underP) := C1OK.by (by kernel_rfl) (fun d h => calls_RUnder d.1 d.2.1 d.2.2 h.1 h.2) (fun _ => rfl) (fun _ => rfl)
set_option maxHeartbeats 4000000 in
theorem calls_RGoto (ls : Ls) (p : Int × Int) (n : Int) (hf : okText ls) (hn : n ≤ 9223372036854775807) : CallsR Tryz.prog 60 [.sl 1 (ls.map .str), aPos p, .int .i64 n] [] (aMove (gotoP ls p n)) [] := by
  refine callsR_of (mrg := true) (dyn := []) (CtrOK.cons ok_may (CtrOK.cons ok_none (CtrOK.cons ok_capped (CtrOK.cons ok_Rline (CtrOK.nil _))))) mixed Tryz.func60 rfl (by simp [Tryz.ntmps60]) (by kernel_rfl) ?_
  rw [show Tryz.f60.results.toList = [.cell 6 49, .tmp 7] from by kernel_rfl]
  obtain ⟨p1, p2⟩ := p
  have h6 := fits_getD hf p1.toNat
  have h8 := hf.1
  unfold gotoP whenMay
  cases hm : may ls (p1, p2) n with
  | false =>
    rw [if_neg (by simp)]
    simp (maxSteps := 4000000) only [go_sem, Nat.reduceAdd, reduceCtorEq, Nat.reduceEqDiff, tk25, dz25, tk49, tz49, dz49, kMay, kNone, kCapped, kRLine, aPos, aMove, aMv, mNone, hm]
  | true =>
    rw [if_pos rfl]
    have hi := (may_iff _ _ _).1 hm
    dsimp only at hi
    have w1 : IntKind.i64.wrap (min n 1073741824 - 1) = min n 1073741824 - 1 := wrap64 (by omega) (by omega)
    have e1 : lineM ls (n - 1) true = lineM ls (min n 1073741824 - 1) true := by
      by_cases h : n ≤ 1073741824
      · rw [show min n 1073741824 = n by omega]
      · unfold lineM
        rw [if_pos (by omega), if_pos (by omega)]
    rw [e1]
    simp (maxSteps := 4000000) only [go_sem, Nat.reduceAdd, reduceCtorEq, Nat.reduceEqDiff, tk25, dz25, tk49, tz49, dz49, kMay, kNone, kCapped, kRLine, aPos, aMove, aMv, mNone, hm, w1]
    exact hf
theorem ok_RGoto : C1OK Tryz.prog 60 (kMvN gotoP) := C1OK.by (by kernel_rfl) (fun d h => calls_RGoto d.1 d.2.1 d.2.2 h.1 h.2) (fun _ => rfl) (fun _ => rfl)
set_option maxHeartbeats 4000000 in
theorem calls_RVertical (ls : Ls) (p : Int × Int) (n want : Int) (up : Bool) (hf : okText ls) : CallsR Tryz.prog 56 [.sl 1 (ls.map .str), aPos p, .int .i64 n, .int .i64 want, .bool up] [] (aMove (vertP ls p n want up)) [] := by
  refine callsR_of (mrg := true) (dyn := []) (CtrOK.cons ok_may (CtrOK.cons ok_none (CtrOK.cons ok_capped (CtrOK.cons ok_Rlast (CtrOK.nil _))))) mixed Tryz.func56 rfl (by simp [Tryz.ntmps56]) (by kernel_rfl) ?_
  rw [show Tryz.f56.results.toList = [.cell 10 49, .tmp 11] from by kernel_rfl]
  obtain ⟨p1, p2⟩ := p
  have h8 := hf.1
  unfold vertP whenMay
  cases hm : may ls (p1, p2) n with
  | false =>
    rw [if_neg (by simp)]
    simp (maxSteps := 4000000) only [go_sem, Nat.reduceAdd, reduceCtorEq, Nat.reduceEqDiff, tk25, dz25, tk49, tz49, dz49, kMay, kNone, aPos, aMove, aMv, mNone, hm]
  | true =>
    rw [if_pos rfl]
    have hi := (may_iff _ _ _).1 hm
    dsimp only at hi
    have w1 : IntKind.i64.wrap (p1 + min n 1073741824) = p1 + min n 1073741824 := wrap64 (by omega) (by omega)
    have w2 : IntKind.i64.wrap (p1 - min n 1073741824) = p1 - min n 1073741824 := wrap64 (by omega) (by omega)
    obtain ⟨l, hl⟩ : ∃ l, l = if up = true then p1 - min n 1073741824 else p1 + min n 1073741824 := ⟨_, rfl⟩
    have h7 := fits_getD hf l.toNat
    have el : (l < 0 ∨ l ≥ ls.length) ↔ (toL (p1, p2) n up < 0 ∨ toL (p1, p2) n up ≥ ls.length) := by
      unfold toL
      cases up
      · simp only [Bool.false_eq_true, if_false] at hl ⊢; omega
      · simp only [if_true] at hl ⊢; omega
    have el2 : ¬ (l < 0 ∨ l ≥ ls.length) → toL (p1, p2) n up = l := by
      unfold toL
      cases up
      · simp only [Bool.false_eq_true, if_false] at hl ⊢; omega
      · simp only [if_true] at hl ⊢; omega
    unfold orNone
    by_cases h : l < 0 ∨ l ≥ ls.length
    · rw [if_pos (el.1 h)]
      have D : (decide (l < 0) = true ∧ decide (l < 0) = true) ∨ (decide (l < 0) = false ∧ decide (l ≥ (ls.length : Int)) = true) := by
        by_cases h2 : l < 0
        · exact .inl ⟨decide_eq_true h2, decide_eq_true h2⟩
        · exact .inr ⟨decide_eq_false h2, decide_eq_true (by omega)⟩
      cases up
      · simp only [Bool.false_eq_true, if_false] at hl
        rw [← hl] at w1
        rcases D with ⟨c1, c2⟩ | ⟨c1, c2⟩ <;> simp (maxSteps := 4000000) only [go_sem, Nat.reduceAdd, reduceCtorEq, Nat.reduceEqDiff, tk3, tk22, tk25, dz25, tk49, tz49, dz49, kMay, kNone, kCapped, aPos, aMove, aMv, mNone, hm, w1, ←hl, c1, c2]
      · simp only [if_true] at hl
        rw [← hl] at w2
        rcases D with ⟨c1, c2⟩ | ⟨c1, c2⟩ <;> simp (maxSteps := 4000000) only [go_sem, Nat.reduceAdd, reduceCtorEq, Nat.reduceEqDiff, tk3, tk22, tk25, dz25, tk49, tz49, dz49, kMay, kNone, kCapped, aPos, aMove, aMv, mNone, hm, w1, w2, ←hl, c1, c2]
    · rw [if_neg (fun h2 => h (el.2 h2)), el2 h]
      have c1 : decide (l < 0) = false := decide_eq_false (by omega)
      have c2 : decide (l ≥ (ls.length : Int)) = false := decide_eq_false (by omega)
      cases up
      · simp only [Bool.false_eq_true, if_false] at hl
        rw [← hl] at w1
        simp (maxSteps := 4000000) only [go_sem, Nat.reduceAdd, reduceCtorEq, Nat.reduceEqDiff, Nat.reduceLeDiff, tk3, tk9, dz9, tk22, tk25, tz25, dz25, tk49, tz49, dz49, kMay, kNone, kCapped, kRLast, aPos, aMove, aMv, mNone, hm, w1, ←hl, c1, c2]
        (repeat' first | apply And.intro | rfl | omega)
      · simp only [if_true] at hl
        rw [← hl] at w2
        simp (maxSteps := 4000000) only [go_sem, Nat.reduceAdd, reduceCtorEq, Nat.reduceEqDiff, Nat.reduceLeDiff, tk3, tk9, dz9, tk22, tk25, tz25, dz25, tk49, tz49, dz49, kMay, kNone, kCapped, kRLast, aPos, aMove, aMv, mNone, hm, w1, w2, ←hl, c1, c2]
        (repeat' first | apply And.intro | rfl | omega)
def kRVert : C1 := C1.by [.sl 1 [], .id, .id, .id, .id] (lCons cStrs (lCons cPos2 (lCons (cInt .i64) (lCons (cInt .i64) (lOne cBool))))) (fun d => okText d.1) (fun d => aMove (vertP d.1 d.2.1 d.2.2.1 d.2.2.2.1 d.2.2.2.2)) (fun _ => [])
theorem ok_RVertical : C1OK Tryz.prog 56 kRVert := C1OK.by (by kernel_rfl) (fun d h => calls_RVertical d.1 d.2.1 d.2.2.1 d.2.2.2.1 d.2.2.2.2 h) (fun _ => rfl) (fun _ => rfl)
set_option maxRecDepth 20000 in
set_option maxHeartbeats 4000000 in
theorem calls_RScreen (ls : Ls) (p : Int × Int) (top : Int) (key : UInt8) (n : Int) (hf : okText ls) : CallsR Tryz.prog 61 [.sl 1 (ls.map .str), aPos p, .int .i64 top, byteA key, .int .i64 n] [] (aMove (screenP ls p top key n)) [] := by
  refine callsR_of (mrg := true) (dyn := []) (CtrOK.cons ok_may (CtrOK.cons ok_none (CtrOK.cons ok_Rline (CtrOK.nil _)))) mixed Tryz.func61 rfl (by simp [Tryz.ntmps61]) (by kernel_rfl) ?_
  rw [show Tryz.f61.results.toList = [.cell 10 49, .tmp 11] from by kernel_rfl]
  obtain ⟨p1, p2⟩ := p
  have h8 := hf.1
  unfold screenP whenMay
  obtain ⟨tp, htp⟩ : ∃ tp, tp = max top 0 := ⟨_, rfl⟩
  rw [← htp]
  cases hm : may ls (p1, p2) n with
  | false =>
    rw [if_neg (by simp)]
    simp (maxSteps := 4000000) only [go_sem, Nat.reduceAdd, reduceCtorEq, Nat.reduceEqDiff, tk22, tk25, dz25, tk49, tz49, dz49, kMay, kNone, aPos, aMove, aMv, mNone, hm, ←htp]
  | true =>
    rw [if_pos rfl]
    have hi := (may_iff _ _ _).1 hm
    dsimp only at hi
    unfold orNone
    by_cases h : tp ≥ ls.length
    · have c1 : decide (tp ≥ (ls.length : Int)) = true := decide_eq_true h
      rw [if_pos h]
      simp (maxSteps := 4000000) only [go_sem, Nat.reduceAdd, reduceCtorEq, Nat.reduceEqDiff, tk22, tk25, dz25, tk49, tz49, dz49, kMay, kNone, aPos, aMove, aMv, mNone, hm, ←htp, c1]
    · have c1 : decide (tp ≥ (ls.length : Int)) = false := decide_eq_false h
      rw [if_neg h]
      unfold screenTo
      have w0 : IntKind.i64.wrap ((ls.length : Int) - tp) = (ls.length : Int) - tp := wrap64 (by omega) (by omega)
      obtain ⟨sh, hsh⟩ : ∃ sh, sh = min 10 ((ls.length : Int) - tp) := ⟨_, rfl⟩
      rw [← hsh]
      obtain ⟨m, hmm⟩ : ∃ m, m = min n sh := ⟨_, rfl⟩
      rw [← hmm]
      have w1 : IntKind.i64.wrap (tp + m) = tp + m := wrap64 (by omega) (by omega)
      have w2 : IntKind.i64.wrap (tp + m - 1) = tp + (m - 1) := by rw [wrap64 (by omega) (by omega)]; omega
      have w3 : IntKind.i64.wrap (tp + sh) = tp + sh := wrap64 (by omega) (by omega)
      have w4 : IntKind.i64.wrap (tp + sh - m) = tp + (sh - m) := by rw [wrap64 (by omega) (by omega)]; omega
      have w5 : IntKind.i64.wrap (sh - 1) = sh - 1 := wrap64 (by omega) (by omega)
      have w6 : (sh - 1).tdiv 2 = (sh - 1) / 2 := Int.tdiv_eq_ediv_of_nonneg (by omega)
      have w7 : IntKind.i64.wrap ((sh - 1) / 2) = (sh - 1) / 2 := wrap64 (by omega) (by omega)
      have w8 : IntKind.i64.wrap (tp + (sh - 1) / 2) = tp + (sh - 1) / 2 := wrap64 (by omega) (by omega)
      by_cases k1 : key = 72
      · have b1 := byte_lit0 key 72 72 rfl k1
        rw [if_pos k1]
        simp (maxSteps := 4000000) only [go_sem, Nat.reduceAdd, reduceCtorEq, Nat.reduceEqDiff, tk22, tk25, dz25, tk49, tz49, dz49, kMay, kNone, kRLine, aPos, aMove, aMv, mNone, hm, ←htp, c1, w0, ←hsh, ←hmm, w1, w2, b1]
        exact hf
      · have b1 := byte_lit key 72 72 rfl k1
        rw [if_neg k1]
        by_cases k2 : key = 76
        · have b2 := byte_lit0 key 76 76 rfl k2
          rw [if_pos k2]
          simp (maxSteps := 4000000) only [go_sem, Nat.reduceAdd, reduceCtorEq, Nat.reduceEqDiff, tk22, tk25, dz25, tk49, tz49, dz49, kMay, kNone, kRLine, aPos, aMove, aMv, mNone, hm, ←htp, c1, w0, ←hsh, ←hmm, w3, w4, b1, b2]
          exact hf
        · have b2 := byte_lit key 76 76 rfl k2
          rw [if_neg k2]
          by_cases k3 : key = 77
          · have b3 := byte_lit0 key 77 77 rfl k3
            rw [if_pos k3]
            simp (maxSteps := 4000000) only [go_sem, Nat.reduceAdd, reduceCtorEq, Nat.reduceEqDiff, tk22, tk25, dz25, tk49, tz49, dz49, kMay, kNone, kRLine, aPos, aMove, aMv, mNone, hm, ←htp, c1, w0, ←hsh, ←hmm, w5, w6, w7, w8, b1, b2, b3]
            (repeat' first | exact hf | apply And.intro | decide | omega)
          · have b3 := byte_lit key 77 77 rfl k3
            rw [if_neg k3]
            simp (maxSteps := 4000000) only [go_sem, Nat.reduceAdd, reduceCtorEq, Nat.reduceEqDiff, tk22, tk25, dz25, tk49, tz49, dz49, kMay, kNone, kRLine, aPos, aMove, aMv, mNone, hm, ←htp, c1, w0, ←hsh, ←hmm, b1, b2, b3]
def kRScreen : C1 := C1.by [.sl 1 [], .id, .id, .id, .id] (lCons cStrs (lCons cPos2 (lCons (cInt .i64) (lCons cByte (lOne (cInt .i64)))))) (fun d => okText d.1) (fun d => aMove (screenP d.1 d.2.1 d.2.2.1 d.2.2.2.1 d.2.2.2.2)) (fun _ => [])
theorem ok_RScreen : C1OK Tryz.prog 61 kRScreen := C1OK.by (by kernel_rfl) (fun d h => calls_RScreen d.1 d.2.1 d.2.2.1 d.2.2.2.1 d.2.2.2.2 h) (fun _ => rfl) (fun _ => rfl)
end Go.Pg
