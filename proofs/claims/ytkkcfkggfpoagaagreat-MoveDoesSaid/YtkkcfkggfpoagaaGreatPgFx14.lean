/- Where words end, by the document. The document's motions by words: they are the program's. -/
import Derived.Test.YtkkcfkggfpoagaaGreatPgBs
import Derived.Test.YtkkcfkggfpoagaaGreatPgFx1
import Derived.Test.YtkkcfkggfpoagaaGreatPgFx2
import Derived.Test.YtkkcfkggfpoagaaGreatPgFx13
set_option linter.unusedVariables false
set_option linter.unusedSimpArgs false
namespace Go.Pg
open Go Go.Proofs

set_option maxRecDepth 20000 in
set_option maxHeartbeats 4000000 in
theorem calls_REnds (ls : Ls) (big : Bool) (hf : fits 65536 65536 ls) : CallsR Tryz.prog 94 [.sl 1 (ls.map .str), .bool big] [] (.sl 2 ((marksTo false (endB big) ls ls.length).map aPos)) [] := by
  refine callsR_of (mrg := true) (dyn := []) (CtrOK.cons ok_ROf (CtrOK.nil _)) mixed Tryz.func94 rfl (by simp [Tryz.ntmps94]) (by kernel_rfl) ?_
  rw [show Tryz.f94.results.toList = [.tmp 4] from by kernel_rfl]
  simp (maxSteps := 4000000) only [go_sem, kOf]
  have hll := hf.1
  have hls := fits_getD hf
  refine loopH_intro (α := Nat × List (Int × Int)) (fun x => ([(0, .sl 1 (ls.map .str)), (1, .bool big), (4, .nls), (5, .own 0 2 x.2.length), (6, .int .i64 x.1)], [.arr 25 2 (x.2.map aPos)]))
    (fun x => x.1 ≤ ls.length ∧ x.2 = marksTo false (endB big) ls x.1) (fun x => ls.length - x.1) (0, []) ⟨by simp, by simp [marksTo]⟩ ?_ ?_
  · simp (maxSteps := 4000000) only [go_sem, reduceCtorEq, Nat.reduceEqDiff]
    all_goals rfl
  intro x hx
  obtain ⟨i, out⟩ := x
  simp only at hx
  obtain ⟨hx1, hx2⟩ := hx
  have hol := marksTo_len false (endB big) ls 65536 hls i
  rw [← hx2] at hol
  have hmul : i * (65536 + 1) ≤ 65536 * 65537 := Nat.mul_le_mul (by omega) (by omega)
  by_cases hi : i < ls.length
  · have hct : decide ((i : Int) < (ls.length : Int)) = true := decide_eq_true (by omega)
    have hsl := hls i
    have hts := marksTo_succ false (endB big) ls i
    rw [← hx2] at hts
    have hlm : lineMarks false (endB big) i (ls.getD i []) = [] ++ marksIn (endB big) i (ls.getD i []) (ls.getD i []).length := by
      unfold lineMarks
      rfl
    simp (maxSteps := 4000000) only [go_sem, reduceCtorEq, Nat.reduceEqDiff, tk9, dz9, tk22, kOf, hct]
    refine ⟨by omega, ?_⟩
    refine loopH_intro (α := Nat × List (Int × Int)) (fun x => ([(0, .sl 1 (ls.map .str)), (1, .bool big), (4, .nls), (5, .own 0 2 x.2.length), (6, .int .i64 i), (7, .str (ls.getD i [])), (8, .int .i64 x.1)], [.arr 25 2 (x.2.map aPos)]))
      (fun x => x.1 ≤ (ls.getD i []).length ∧ x.2 = out ++ [] ++ marksIn (endB big) i (ls.getD i []) x.1) (fun x => (ls.getD i []).length - x.1) (0, out ++ []) ⟨by simp, by simp [marksIn]⟩ ?_ ?_
    · simp (maxSteps := 4000000) only [go_sem, reduceCtorEq, Nat.reduceEqDiff]
      first | exact subX_eq rfl (pureB_posL _) | exact ⟨subX_eq rfl (pureB_posL _), by simp⟩ | exact ⟨rfl, subX_eq rfl (pureB_posL _)⟩
    intro y hy
    obtain ⟨k, out2⟩ := y
    simp only at hy
    obtain ⟨hy1, hy2⟩ := hy
    have hml := marksIn_len (endB big) i (ls.getD i []) k
    have hol2 : out2.length ≤ 4295032832 + 65540 := by
      rw [hy2, List.length_append, List.length_append]
      have : ([] : List (Int × Int)).length ≤ 1 := by simp
      omega
    by_cases hk : k < (ls.getD i []).length
    · have hct2 : decide ((k : Int) < ((ls.getD i []).length : Int)) = true := decide_eq_true (by omega)
      have hm1 := marksIn_succ (endB big) i (ls.getD i []) k
      have hk1 : (IntKind.i64.wrap ((k : Int) - 1)) = (k : Int) - 1 := wrap64 (by omega) (by omega)
      have hk2 : ((k : Int) - 1).toNat = k - 1 := by omega
      have hk4 : IntKind.i64.wrap (((ls.getD i []).length : Int) - 1) = ((ls.getD i []).length : Int) - 1 := wrap64 (by omega) (by omega)
      have hk3 : (IntKind.i64.wrap ((k : Int) + 1)) = ((k + 1 : Nat) : Int) := by rw [wrap64 (by omega) (by omega)]; omega
      simp (maxSteps := 4000000) only [go_sem, Nat.reduceAdd, reduceCtorEq, Nat.reduceEqDiff, Nat.reducePow, Nat.reduceLeDiff, tk9, tk25, tz25, eb25, tk37, kOf, app1_pos2, hct2, hk3, hk4]
      refine ⟨by omega, fun h => ?_, fun h => ⟨h, fun h2 => by rw [h, h2]; rfl⟩, fun h => ?_, fun h => ?_⟩
      · have h' := h
        simp only [Bool.and_eq_true, Bool.not_eq_true', beq_eq_false_iff_ne, ne_eq] at h'
        exact ⟨h, by omega, by omega⟩
      · rw [if_pos (show endB big (ls.getD i []) k = true from h)] at hm1
        exact ⟨⟨by decide, by omega⟩, (k + 1, out2 ++ [((i : Int), (k : Int))]), ⟨by show k + 1 ≤ _; omega, by simp only [hm1, hy2, List.append_assoc, List.append_nil]⟩, by show _ - (k + 1) < _; omega, subX_eq rfl (pureB_posL _), by simp, rfl⟩
      · rw [if_neg (show ¬ endB big (ls.getD i []) k = true from by rw [Bool.not_eq_true]; exact h)] at hm1
        exact ⟨(k + 1, out2), ⟨by show k + 1 ≤ _; omega, by simp only [hm1, hy2, List.append_nil]⟩, by show _ - (k + 1) < _; omega, subX_eq rfl (pureB_posL _), rfl, rfl⟩
    · have hcf2 : decide ((k : Int) < ((ls.getD i []).length : Int)) = false := decide_eq_false (by omega)
      have hke : k = (ls.getD i []).length := by omega
      simp (maxSteps := 4000000) only [go_sem, reduceCtorEq, Nat.reduceEqDiff, tk9, kOf, pureB_posL, hcf2]
      refine ⟨(i + 1, out2), ⟨by show i + 1 ≤ _; omega, ?_⟩, by show _ - (i + 1) < _; omega, subX_eq rfl (pureB_posL _), rfl, by rw [wrap64 (by omega) (by omega)]; rfl⟩
      rw [hts, hy2, hke, hlm, List.append_assoc]
  · have hcf : decide ((i : Int) < (ls.length : Int)) = false := decide_eq_false (by omega)
    have hil : i = ls.length := by omega
    simp (maxSteps := 4000000) only [go_sem, reduceCtorEq, Nat.reduceEqDiff, tk22, kOf, pureB_posL, hcf]
    rw [hx2, hil]
end Go.Pg
namespace Go.Pg
open Go Go.Proofs

theorem decL_pos (l : List (Int × Int)) : decL cPos2.dec (l.map aPos) = some l := decL_map (fun a => by simp [aPos, cAgg, lCons, lOne, cInt, dec2]) l
def kStarts : C1 := C1.by [.sl 1 [], .id] (lCons cStrs (lOne cBool)) (fun d => fits 65536 65536 d.1) (fun d => .sl 2 ((marksOf true true d.2 d.1).map aPos)) (fun _ => [])
theorem ok_RStarts : C1OK Tryz.prog 89 kStarts := C1OK.by (by kernel_rfl) (fun d h => calls_RStarts d.1 d.2 h) (fun _ => rfl) (fun _ => rfl)
def kEnds : C1 := C1.by [.sl 1 [], .id] (lCons cStrs (lOne cBool)) (fun d => fits 65536 65536 d.1) (fun d => .sl 2 ((marksOf false false d.2 d.1).map aPos)) (fun _ => [])
theorem ok_REnds : C1OK Tryz.prog 94 kEnds := C1OK.by (by kernel_rfl) (fun d h => calls_REnds d.1 d.2 h) (fun _ => rfl) (fun _ => rfl)
def kBehind : C1 := C1.by [.sl 2 [], .id, .id] (lCons (cSl 2 cPos2) (lCons cPos2 (lOne cBool))) (fun d => d.1.length ≤ 1099511627776) (fun d => .sl 2 ((behind d.1 d.2.1 d.2.2).map aPos)) (fun _ => [])
theorem ok_behind : C1OK Tryz.prog 88 kBehind := C1OK.by (by kernel_rfl) (fun d h => calls_behind d.1 d.2.1 d.2.2 h) (fun _ => rfl) (fun _ => rfl)
def kAhead : C1 := C1.by [.sl 2 [], .id] (lCons (cSl 2 cPos2) (lOne cPos2)) (fun d => d.1.length ≤ 1099511627776) (fun d => .sl 2 ((ahead d.1 d.2).map aPos)) (fun _ => [])
theorem ok_ahead : C1OK Tryz.prog 93 kAhead := C1OK.by (by kernel_rfl) (fun d h => calls_ahead d.1 d.2 h) (fun _ => rfl) (fun _ => rfl)

theorem marksOf_len (st e big : Bool) (ls : Ls) (hf : fits 65536 65536 ls) : (marksOf st e big ls).length ≤ 4295032832 := by
  have h1 := marksTo_len e (gOf st big) ls 65536 (fits_getD hf) ls.length
  have h2 : ls.length * (65536 + 1) ≤ 65536 * 65537 := Nat.mul_le_mul hf.1 (by omega)
  show (marksTo e (gOf st big) ls ls.length).length ≤ _
  omega
theorem marksOf_sorted (st e big : Bool) (ls : Ls) : (marksOf st e big ls).Pairwise (fun a b => less a b = true) := (marksTo_sorted _ _ _ _).1
theorem behind_len (l : List (Int × Int)) (p : Int × Int) (same : Bool) : (behind l p same).length ≤ l.length := List.length_filter_le _ _
theorem ahead_len (l : List (Int × Int)) (p : Int × Int) : (ahead l p).length ≤ l.length := Nat.le_trans (List.length_filter_le _ _) (by simp)
theorem may_pos {ls : Ls} {p : Int × Int} {n : Int} (h : may ls p n = true) : 1 ≤ n ∧ 0 ≤ p.1 ∧ p.1 < ls.length ∧ 0 ≤ p.2 ∧ p.2 ≤ (ls.getD p.1.toNat []).length := by
  unfold may place at h
  simp only [Bool.and_eq_true, decide_eq_true_eq] at h
  omega

set_option maxHeartbeats 4000000 in
theorem calls_RBack (ls : Ls) (p : Int × Int) (n : Int) (big : Bool) (hf : fits 65536 65536 ls) : CallsR Tryz.prog 53 [.sl 1 (ls.map .str), aPos p, .int .i64 n, .bool big] [] (aMove (wBackM ls p n true true big 0)) [] := by
  obtain ⟨p1, p2⟩ := p
  refine callsR_of (mrg := true) (dyn := []) (CtrOK.cons ok_may (CtrOK.cons ok_none (CtrOK.cons ok_RStarts (CtrOK.cons ok_ahead (CtrOK.cons ok_nth (CtrOK.nil _)))))) mixed Tryz.func53 rfl (by simp [Tryz.ntmps53]) (by kernel_rfl) ?_
  rw [show Tryz.f53.results.toList = [.cell 8 49, .tmp 9] from by kernel_rfl]
  cases hm : may ls (p1, p2) n with
  | false =>
    rw [wBackM, if_neg (by rw [hm]; simp)]
    simp (maxSteps := 4000000) only [go_sem, Nat.reduceAdd, reduceCtorEq, Nat.reduceEqDiff, tk25, dz25, tk49, tz49, dz49, aPos, aMove, aMv, mNone, kMay, kNone, hm]
  | true =>
    have hn := (may_pos hm).1
    have h1 := marksOf_len true true big ls hf
    have h2 := ahead_len (marksOf true true big ls) (p1, p2)
    rw [wBackM, if_pos hm, mBack_nth _ _ _ _ (marksOf_sorted _ _ _ _) hn]
    simp (maxSteps := 4000000) only [go_sem, Nat.reduceAdd, reduceCtorEq, Nat.reduceEqDiff, tk25, dz25, tk49, tz49, dz49, aPos_def, aMove, aMv, kMay, kNone, kStarts, kAhead, kNth, decL_pos, hm]
    exact ⟨hf, by omega, hn, by omega⟩

set_option maxHeartbeats 4000000 in
theorem calls_RBackTail (ls : Ls) (p : Int × Int) (n : Int) (big : Bool) (hf : fits 65536 65536 ls) : CallsR Tryz.prog 55 [.sl 1 (ls.map .str), aPos p, .int .i64 n, .bool big] [] (aMove (wBackM ls p n false false big 1)) [] := by
  obtain ⟨p1, p2⟩ := p
  refine callsR_of (mrg := true) (dyn := []) (CtrOK.cons ok_may (CtrOK.cons ok_none (CtrOK.cons ok_REnds (CtrOK.cons ok_ahead (CtrOK.cons ok_nth (CtrOK.nil _)))))) mixed Tryz.func55 rfl (by simp [Tryz.ntmps55]) (by kernel_rfl) ?_
  rw [show Tryz.f55.results.toList = [.cell 8 49, .tmp 9] from by kernel_rfl]
  cases hm : may ls (p1, p2) n with
  | false =>
    rw [wBackM, if_neg (by rw [hm]; simp)]
    simp (maxSteps := 4000000) only [go_sem, Nat.reduceAdd, reduceCtorEq, Nat.reduceEqDiff, tk25, dz25, tk49, tz49, dz49, aPos, aMove, aMv, mNone, kMay, kNone, hm]
  | true =>
    have hn := (may_pos hm).1
    have h1 := marksOf_len false false big ls hf
    have h2 := ahead_len (marksOf false false big ls) (p1, p2)
    rw [wBackM, if_pos hm, mBack_nth _ _ _ _ (marksOf_sorted _ _ _ _) hn]
    simp (maxSteps := 4000000) only [go_sem, Nat.reduceAdd, reduceCtorEq, Nat.reduceEqDiff, tk25, dz25, tk49, tz49, dz49, aPos_def, aMove, aMv, kMay, kNone, kEnds, kAhead, kNth, decL_pos, hm]
    exact ⟨hf, by omega, hn, by omega⟩

set_option maxHeartbeats 4000000 in
theorem calls_RTail (ls : Ls) (p : Int × Int) (n : Int) (big here : Bool) (hf : fits 65536 65536 ls) : CallsR Tryz.prog 54 [.sl 1 (ls.map .str), aPos p, .int .i64 n, .bool big, .bool here] [] (aMove (rTail ls p n big here)) [] := by
  obtain ⟨p1, p2⟩ := p
  refine callsR_of (mrg := true) (dyn := []) (CtrOK.cons ok_may (CtrOK.cons ok_none (CtrOK.cons ok_REnds (CtrOK.cons ok_behind (CtrOK.cons ok_nth (CtrOK.nil _)))))) mixed Tryz.func54 rfl (by simp [Tryz.ntmps54]) (by kernel_rfl) ?_
  rw [show Tryz.f54.results.toList = [.cell 10 49, .tmp 11] from by kernel_rfl]
  cases hm : may ls (p1, p2) n with
  | false =>
    rw [rTail, if_neg (by rw [hm]; simp)]
    simp (maxSteps := 4000000) only [go_sem, Nat.reduceAdd, reduceCtorEq, Nat.reduceEqDiff, tk25, dz25, tk49, tz49, dz49, aPos, aMove, aMv, mNone, kMay, kNone, hm]
  | true =>
    have hn := (may_pos hm).1
    have h1 := marksOf_len false false big ls hf
    have h2 := behind_len (marksOf false false big ls) (p1, p2) here
    rw [rTail, if_pos hm]
    simp (maxSteps := 4000000) only [go_sem, Nat.reduceAdd, reduceCtorEq, Nat.reduceEqDiff, tk25, dz25, tk49, tz49, dz49, aPos_def, aMove, aMv, kMay, kNone, kEnds, kBehind, kNth, decL_pos, hm]
    exact ⟨hf, by omega, hn, by omega⟩

theorem lastOf_take (l : List (Int × Int)) (p : Int × Int) (n : Int) (h0 : 1 ≤ n) (h : n ≤ l.length) : lastOf (l.take (n - 1).toNat) p = if n > 1 then l.getD (n - 2).toNat (0, 0) else p := by
  obtain ⟨k, rfl⟩ : ∃ k : Nat, n = k + 1 := ⟨(n - 1).toNat, by omega⟩
  rw [show ((k : Int) + 1 - 1).toNat = k by omega]
  cases k with
  | zero => simp [lastOf]
  | succ k =>
    rw [if_pos (by omega), take_succ_getD l k (0, 0) (by omega), show (((k + 1 : Nat) : Int) + 1 - 2).toNat = k by omega]
    unfold lastOf
    simp

set_option maxRecDepth 40000 in
set_option maxHeartbeats 8000000 in
theorem calls_RNext (ls : Ls) (p : Int × Int) (n : Int) (big op : Bool) (hf : fits 65536 65536 ls) (hn9 : n ≤ 9223372036854775807) : CallsR Tryz.prog 52 [.sl 1 (ls.map .str), aPos p, .int .i64 n, .bool big, .bool op] [] (aMove (wNext ls p n big op)) [] := by
  obtain ⟨p1, p2⟩ := p
  refine callsR_of (mrg := true) (dyn := []) (CtrOK.cons ok_may (CtrOK.cons ok_none (CtrOK.cons ok_RStarts (CtrOK.cons ok_behind (CtrOK.cons ok_nth (CtrOK.cons ok_end (CtrOK.cons ok_to (CtrOK.cons ok_RLess (CtrOK.nil _))))))))) mixed Tryz.func52 rfl (by simp [Tryz.ntmps52]) (by kernel_rfl) ?_
  rw [show Tryz.f52.results.toList = [.cell 10 49, .tmp 11] from by kernel_rfl]
  cases hm : may ls (p1, p2) n with
  | false =>
    rw [wNext, if_neg (by rw [hm]; simp)]
    simp (maxSteps := 4000000) only [go_sem, Nat.reduceAdd, reduceCtorEq, Nat.reduceEqDiff, tk25, dz25, tk49, tz49, dz49, aPos, aMove, aMv, mNone, kMay, kNone, hm]
  | true =>
    obtain ⟨hn, q1, q2, q3, q4⟩ := may_pos hm
    have h1 := marksOf_len true true big ls hf
    have h2 := behind_len (marksOf true true big ls) (p1, p2) false
    have hll := hf.1
    have hmem : ∀ q ∈ behind (marksOf true true big ls) (p1, p2) false, 0 ≤ q.1 ∧ q.1 < ls.length ∧ less (p1, p2) q = true := by
      intro q hq
      obtain ⟨g1, g2⟩ := List.mem_filter.1 hq
      obtain ⟨g3, g4, _⟩ := (marksTo_sorted _ _ _ _).2 q g1
      exact ⟨g3, g4, by simpa [isBehind] using g2⟩
    rw [wNext, if_pos hm]
    generalize hl : behind (marksOf true true big ls) (p1, p2) false = l at h2 hmem ⊢
    cases op with
    | false =>
      have e : (if n ≤ (l.length : Int) then stopAt ls (p1, p2) (l.getD (n - 1).toNat (0, 0)) (lastOf (l.take (n - 1).toNat) (p1, p2)) false else if (false && n - (l.length : Int) == 1) = true then wEnd ls (p1, p2) (ls.length - 1) else mNone) = nth l n 0 := by
        unfold nth stopAt
        by_cases h : n ≤ (l.length : Int)
        · rw [if_pos h, if_neg (show ¬ n > (l.length : Int) by omega), if_neg (by simp)]
        · rw [if_neg h, if_pos (show n > (l.length : Int) by omega), if_neg (by simp)]
      simp only [e]
      simp (maxSteps := 4000000) only [go_sem, Nat.reduceAdd, reduceCtorEq, Nat.reduceEqDiff, tk25, dz25, tk49, tz49, dz49, aPos_def, aMove, aMv, kMay, kNone, kStarts, kBehind, kNth, decL_pos, hm, hl]
      exact ⟨hf, by omega, hn, by omega⟩
    | true =>
      have w1 : IntKind.i64.wrap (n - 1) = n - 1 := wrap64 (by omega) (by omega)
      by_cases ha : (l.length : Int) < n - 1
      · have hct : decide ((l.length : Int) < n - 1) = true := decide_eq_true ha
        rw [if_neg (show ¬ n ≤ (l.length : Int) by omega), if_neg (by simp; omega)]
        simp (maxSteps := 4000000) only [go_sem, Nat.reduceAdd, reduceCtorEq, Nat.reduceEqDiff, tk25, dz25, tk37, tk49, tz49, dz49, aPos_def, aMove, aMv, mNone, kMay, kNone, kStarts, kBehind, kNth, decL_pos, hm, hl, w1, hct]
        exact ⟨hf, by omega⟩
      · have hct : decide ((l.length : Int) < n - 1) = false := decide_eq_false ha
        by_cases hb : (l.length : Int) ≥ n
        · have hct2 : decide ((l.length : Int) ≥ n) = true := decide_eq_true hb
          rw [if_pos (show n ≤ (l.length : Int) by omega)]
          have hs := hmem (l.getD (n - 1).toNat (0, 0)) (by rw [List.getD_eq_getElem?_getD, List.getElem?_eq_getElem (by omega)]; exact List.getElem_mem _)
          rw [lastOf_take l _ n hn (by omega)]
          generalize hsv : l.getD (n - 1).toNat (0, 0) = sv at hs ⊢
          obtain ⟨s1, s2⟩ := sv
          have w2 : IntKind.i64.wrap (n - 2) = n - 2 := wrap64 (by omega) (by omega)
          have hi1 : (n - 1).toNat < l.length := by omega
          by_cases hc : n > 1
          · have hct3 : decide (n > 1) = true := decide_eq_true hc
            have hr := hmem (l.getD (n - 2).toNat (0, 0)) (by rw [List.getD_eq_getElem?_getD, List.getElem?_eq_getElem (by omega)]; exact List.getElem_mem _)
            rw [if_pos hc]
            generalize hrv : l.getD (n - 2).toNat (0, 0) = rv at hr ⊢
            obtain ⟨r1, r2⟩ := rv
            by_cases hd : s1 > r1
            · have hct4 : decide (s1 > r1) = true := decide_eq_true hd
              rw [stopAt, if_pos (by simpa using hd)]
              cases hle : less (p1, p2) (r1, (ls.getD r1.toNat []).length) with
              | true =>
                rw [wEnd, if_pos hle]
                simp (maxSteps := 4000000) only [go_sem, Nat.reduceAdd, reduceCtorEq, Nat.reduceEqDiff, Nat.reduceLeDiff, tk3, tk9, dz9, tk22, tk25, tz25, dz25, tk37, tk49, tz49, dz49, aPos_def, aMove, aMv, mTo, kMay, kNone, kStarts, kBehind, kNth, kEnd, kTo, kLess, getD_pos, decL_pos, hm, hl, w1, w2, hct, hct2, hct3, hct4, hsv, hrv, hle]
                exact ⟨hf, by omega, ⟨by omega, by omega⟩, ⟨by omega, by omega⟩, ⟨by omega, by omega⟩, hr.1, by have : r1 < ls.length := hr.2.1; have : 0 ≤ r1 := hr.1; omega⟩
              | false =>
                rw [wEnd, if_neg (by simp only [hle]; simp)]
                simp (maxSteps := 4000000) only [go_sem, Nat.reduceAdd, reduceCtorEq, Nat.reduceEqDiff, Nat.reduceLeDiff, tk3, tk9, dz9, tk22, tk25, tz25, dz25, tk37, tk49, tz49, dz49, aPos_def, aMove, aMv, mNone, kMay, kNone, kStarts, kBehind, kNth, kEnd, kTo, kLess, getD_pos, decL_pos, hm, hl, w1, w2, hct, hct2, hct3, hct4, hsv, hrv, hle]
                exact ⟨hf, by omega, ⟨by omega, by omega⟩, ⟨by omega, by omega⟩, ⟨by omega, by omega⟩, hr.1, by have : r1 < ls.length := hr.2.1; have : 0 ≤ r1 := hr.1; omega⟩
            · have hct4 : decide (s1 > r1) = false := decide_eq_false hd
              rw [stopAt, if_neg (by simpa using hd)]
              have hle := hs.2.2
              simp (maxSteps := 4000000) only [go_sem, Nat.reduceAdd, reduceCtorEq, Nat.reduceEqDiff, tk3, tk25, tz25, dz25, tk37, tk49, tz49, dz49, aPos_def, aMove, aMv, mTo, kMay, kNone, kStarts, kBehind, kNth, kEnd, kTo, kLess, getD_pos, decL_pos, hm, hl, w1, w2, hct, hct2, hct3, hct4, hsv, hrv, hle]
              exact ⟨hf, by omega, ⟨by omega, by omega⟩, ⟨by omega, by omega⟩, by omega, by omega⟩
          · have hct3 : decide (n > 1) = false := decide_eq_false hc
            rw [if_neg hc]
            by_cases hd : s1 > p1
            · have hct4 : decide (s1 > p1) = true := decide_eq_true hd
              rw [stopAt, if_pos (by simpa using hd)]
              cases hle : less (p1, p2) (p1, (ls.getD p1.toNat []).length) with
              | true =>
                rw [wEnd, if_pos hle]
                simp (maxSteps := 4000000) only [go_sem, Nat.reduceAdd, reduceCtorEq, Nat.reduceEqDiff, Nat.reduceLeDiff, tk3, tk9, dz9, tk22, tk25, tz25, dz25, tk37, tk49, tz49, dz49, aPos_def, aMove, aMv, mTo, kMay, kNone, kStarts, kBehind, kNth, kEnd, kTo, kLess, getD_pos, decL_pos, hm, hl, w1, hct, hct2, hct3, hct4, hsv, hle]
                exact ⟨hf, by omega, ⟨by omega, by omega⟩, ⟨by omega, by omega⟩, q1, by have : p1 < ls.length := q2; have : 0 ≤ p1 := q1; omega⟩
              | false =>
                rw [wEnd, if_neg (by simp only [hle]; simp)]
                simp (maxSteps := 4000000) only [go_sem, Nat.reduceAdd, reduceCtorEq, Nat.reduceEqDiff, Nat.reduceLeDiff, tk3, tk9, dz9, tk22, tk25, tz25, dz25, tk37, tk49, tz49, dz49, aPos_def, aMove, aMv, mNone, kMay, kNone, kStarts, kBehind, kNth, kEnd, kTo, kLess, getD_pos, decL_pos, hm, hl, w1, hct, hct2, hct3, hct4, hsv, hle]
                exact ⟨hf, by omega, ⟨by omega, by omega⟩, ⟨by omega, by omega⟩, q1, by have : p1 < ls.length := q2; have : 0 ≤ p1 := q1; omega⟩
            · have hct4 : decide (s1 > p1) = false := decide_eq_false hd
              rw [stopAt, if_neg (by simpa using hd)]
              have hle := hs.2.2
              simp (maxSteps := 4000000) only [go_sem, Nat.reduceAdd, reduceCtorEq, Nat.reduceEqDiff, tk3, tk25, tz25, dz25, tk37, tk49, tz49, dz49, aPos_def, aMove, aMv, mTo, kMay, kNone, kStarts, kBehind, kNth, kEnd, kTo, kLess, getD_pos, decL_pos, hm, hl, w1, hct, hct2, hct3, hct4, hsv, hle]
              exact ⟨hf, by omega, ⟨by omega, by omega⟩, by omega, by omega⟩
        · have hct2 : decide ((l.length : Int) ≥ n) = false := decide_eq_false hb
          rw [if_neg (show ¬ n ≤ (l.length : Int) by omega), if_pos (by simp; omega)]
          have hle0 : ((ls.length : Int) - 1).toNat = ls.length - 1 := by omega
          cases hle : less (p1, p2) ((ls.length : Int) - 1, (ls.getD (ls.length - 1) []).length) with
          | true =>
            rw [wEnd, if_pos (by rw [hle0]; exact hle), hle0]
            simp (maxSteps := 4000000) only [go_sem, Nat.reduceAdd, reduceCtorEq, Nat.reduceEqDiff, tk3, tk25, tz25, dz25, tk37, tk49, tz49, dz49, aPos_def, aMove, aMv, mTo, kMay, kNone, kStarts, kBehind, kNth, kEnd, kTo, kLess, decL_pos, hm, hl, w1, hct, hct2, hle]
            exact ⟨hf, by omega, by omega, by omega⟩
          | false =>
            rw [wEnd, if_neg (by rw [hle0, hle]; simp)]
            simp (maxSteps := 4000000) only [go_sem, Nat.reduceAdd, reduceCtorEq, Nat.reduceEqDiff, tk25, tz25, dz25, tk37, tk49, tz49, dz49, aPos_def, aMove, aMv, mNone, kMay, kNone, kStarts, kBehind, kNth, kEnd, kTo, kLess, decL_pos, hm, hl, w1, hct, hct2, hle]
            exact ⟨hf, by omega, by omega, by omega⟩
end Go.Pg
