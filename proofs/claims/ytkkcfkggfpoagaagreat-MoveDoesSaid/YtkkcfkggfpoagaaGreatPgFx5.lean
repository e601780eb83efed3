/- Motions by lines: the program's. -/
import Derived.Test.YtkkcfkggfpoagaaGreatPgBs
import Derived.Test.YtkkcfkggfpoagaaGreatPgFx4
set_option linter.unusedVariables false
set_option linter.unusedSimpArgs false
namespace Go.Pg
open Go Go.Proofs

/-- Lines further. -/
def toL (p : Int × Int) (n : Int) (up : Bool) : Int := if up = true then p.1 - n else p.1 + n
def vlineF (ls : Ls) (p : Int × Int) (n : Int) (up : Bool) : Int × Bool :=
  if n < 0 ∨ ¬ (p.1 ≥ 0 ∧ p.1 < ls.length ∧ p.2 ≥ 0 ∧ p.2 ≤ (ls.getD p.1.toNat []).length) then (0, false)
  else if up = true then (p.1 - n, decide (n ≤ p.1)) else (p.1 + min n ls.length, decide (n < ls.length - p.1))
set_option maxHeartbeats 4000000 in
theorem calls_vline (ls : Ls) (p : Int × Int) (n : Int) (up : Bool) (hf : okText ls) (hn : n ≤ 9223372036854775807) : CallsR Tryz.prog 135 [.sl 1 (ls.map .str), aPos p, .int .i64 n, .bool up] [] (.tuple [.int .i64 (vlineF ls p n up).1, .bool (vlineF ls p n up).2]) [] := by
  refine callsR_of (mrg := true) (dyn := []) (CtrOK.cons ok_CPlace (CtrOK.nil _)) mixed Tryz.func135 rfl (by simp [Tryz.ntmps135]) (by kernel_rfl) ?_
  rw [show Tryz.f135.results.toList = [.tmp 8, .tmp 9] from by kernel_rfl]
  obtain ⟨p1, p2⟩ := p
  generalize hr : vlineF ls (p1, p2) n up = r
  obtain ⟨r1, r2⟩ := r
  have h6 := fits_getD hf p1.toNat
  have h8 := hf.1
  have hpl : place ls p1 p2 = (decide (p1 ≥ 0) && decide (p1 < (ls.length : Int)) && decide (p2 ≥ 0) && decide (p2 ≤ ((ls.getD p1.toNat []).length : Int))) := rfl
  by_cases hg : n < 0 ∨ ¬ (p1 ≥ 0 ∧ p1 < ls.length ∧ p2 ≥ 0 ∧ p2 ≤ (ls.getD p1.toNat []).length)
  · have c1 : (decide (n < 0) || !place ls p1 p2) = true := by
      rw [hpl]; simp only [Bool.or_eq_true, decide_eq_true_eq, Bool.not_eq_true', Bool.and_eq_false_iff, decide_eq_false_iff_not]; omega
    rw [vlineF, if_pos hg] at hr
    cases hr
    simp (maxSteps := 4000000) only [go_sem, Nat.reduceAdd, reduceCtorEq, Nat.reduceEqDiff, tk25, dz25, kRPlace, aPos, c1]
    all_goals (intros; first | rfl | simp_all)
  · have c1 : (decide (n < 0) || !place ls p1 p2) = false := by
      rw [hpl]; simp only [Bool.or_eq_false_iff, decide_eq_false_iff_not, Bool.not_eq_false', Bool.and_eq_true, decide_eq_true_eq]; omega
    rw [vlineF, if_neg hg] at hr
    cases up with
    | true =>
      rw [if_pos rfl] at hr
      cases hr
      have w1 : IntKind.i64.wrap (p1 - n) = p1 - n := wrap64 (by omega) (by omega)
      simp (maxSteps := 4000000) only [go_sem, Nat.reduceAdd, reduceCtorEq, Nat.reduceEqDiff, tk3, tk25, dz25, kRPlace, aPos, c1, w1]
      all_goals (intros; first | rfl | simp_all)
    | false =>
      rw [if_neg (by simp)] at hr
      cases hr
      have w1 : IntKind.i64.wrap (p1 + min n (ls.length : Int)) = p1 + min n (ls.length : Int) := wrap64 (by omega) (by omega)
      have w2 : IntKind.i64.wrap ((ls.length : Int) - p1) = (ls.length : Int) - p1 := wrap64 (by omega) (by omega)
      simp (maxSteps := 4000000) only [go_sem, Nat.reduceAdd, reduceCtorEq, Nat.reduceEqDiff, tk3, tk22, tk25, dz25, kRPlace, aPos, c1, w1, w2]
      all_goals (intros; first | rfl | simp_all)
theorem vline_t {ls : Ls} {p : Int × Int} {n a : Int} {up : Bool} (h : (a, true) = vlineF ls p n up) : 0 ≤ n ∧ (0 ≤ p.1 ∧ p.1 < ls.length ∧ 0 ≤ p.2 ∧ p.2 ≤ (ls.getD p.1.toNat []).length) ∧ a = toL p n up ∧ 0 ≤ a ∧ a < ls.length := by
  obtain ⟨p1, p2⟩ := p
  simp only [vlineF, toL] at h ⊢
  split at h
  · cases h
  · cases up <;> simp only [Bool.false_eq_true, if_true, if_false, Prod.mk.injEq, true_eq_decide_iff] at h ⊢ <;> omega
theorem vline_f {ls : Ls} {p : Int × Int} {n a : Int} {up : Bool} (h : (a, false) = vlineF ls p n up) : n < 0 ∨ ¬ (0 ≤ p.1 ∧ p.1 < ls.length ∧ 0 ≤ p.2 ∧ p.2 ≤ (ls.getD p.1.toNat []).length) ∨ toL p n up < 0 ∨ toL p n up ≥ ls.length := by
  obtain ⟨p1, p2⟩ := p
  simp only [vlineF, toL] at h ⊢
  split at h
  · omega
  · cases up <;> simp only [Bool.false_eq_true, if_true, if_false, Prod.mk.injEq, false_eq_decide_iff] at h ⊢ <;> omega
def kVLine : C1 := C1.by [.sl 1 [], .id, .id, .id] (lCons cStrs (lCons cPos2 (lCons (cInt .i64) (lOne cBool)))) (fun d => okText d.1 ∧ d.2.2.1 ≤ 9223372036854775807) (fun d => .tuple [.int .i64 (vlineF d.1 d.2.1 d.2.2.1 d.2.2.2).1, .bool (vlineF d.1 d.2.1 d.2.2.1 d.2.2.2).2]) (fun _ => [])
theorem ok_vline : C1OK Tryz.prog 135 kVLine := C1OK.by (by kernel_rfl) (fun d h => calls_vline d.1 d.2.1 d.2.2.1 d.2.2.2 h.1 h.2) (fun _ => rfl) (fun _ => rfl)

def firstM (ls : Ls) (l : Int) (jump : Bool) : Mv := ((l, firstC (ls.getD l.toNat [])), 2, jump, -1)
def lineM (ls : Ls) (l : Int) (jump : Bool) : Mv × Bool := if l < 0 ∨ l ≥ ls.length then mNone else (firstM ls l jump, true)
theorem calls_vfirst (ls : Ls) (l : Int) (hf : okText ls) (h0 : 0 ≤ l) (h1 : l < ls.length) : CallsR Tryz.prog 127 [.sl 1 (ls.map .str), .int .i64 l] [] (aMv (firstM ls l false)) [] := by
  refine callsR_of (mrg := true) (dyn := []) (CtrOK.cons ok_First (CtrOK.nil _)) mixed Tryz.func127 rfl (by simp [Tryz.ntmps127]) (by kernel_rfl) ?_
  rw [show Tryz.f127.results.toList = [.cell 4 49] from by kernel_rfl]
  have h6 := fits_getD hf l.toNat
  simp (maxSteps := 4000000) only [go_sem, Nat.reduceAdd, reduceCtorEq, Nat.reduceEqDiff, Nat.reduceLeDiff, tk9, dz9, tk22, tk25, tz25, tk49, tz49, dz49, kFirst, aMv, firstM]
  omega
def kVFirst : C1 := C1.by [.sl 1 [], .id] (lCons cStrs (lOne (cInt .i64))) (fun d => okText d.1 ∧ 0 ≤ d.2 ∧ d.2 < d.1.length) (fun d => aMv (firstM d.1 d.2 false)) (fun _ => [])
theorem ok_vfirst : C1OK Tryz.prog 127 kVFirst := C1OK.by (by kernel_rfl) (fun d h => calls_vfirst d.1 d.2 h.1 h.2.1 h.2.2) (fun _ => rfl) (fun _ => rfl)

def vertP (ls : Ls) (p : Int × Int) (n want : Int) (up : Bool) : Mv × Bool :=
  whenMay ls p n (orNone (toL p n up < 0 ∨ toL p n up ≥ ls.length)
    (((toL p n up, min (min (max want 0) 1073741824) (max (((ls.getD (toL p n up).toNat []).length : Int) - 1) 0)), 2, false, min (max want 0) 1073741824), true))
set_option maxHeartbeats 4000000 in
theorem calls_vby (ls : Ls) (p : Int × Int) (n want : Int) (up : Bool) (hf : okText ls) (hn : n ≤ 9223372036854775807) : CallsR Tryz.prog 125 [.sl 1 (ls.map .str), aPos p, .int .i64 n, .int .i64 want, .bool up] [] (aMove (vertP ls p n want up)) [] := by
  refine callsR_of (mrg := true) (dyn := []) (CtrOK.cons ok_vline (CtrOK.nil _)) mixed Tryz.func125 rfl (by simp [Tryz.ntmps125]) (by kernel_rfl) ?_
  rw [show Tryz.f125.results.toList = [.cell 10 49, .tmp 11] from by kernel_rfl]
  obtain ⟨p1, p2⟩ := p
  obtain ⟨x, hx⟩ : ∃ x, x = vlineF ls (p1, p2) n up := ⟨_, rfl⟩
  obtain ⟨a, ok⟩ := x
  have hm := may_iff ls (p1, p2) n
  simp only at hm
  unfold vertP whenMay
  cases ok with
  | false =>
    have hv := vline_f hx
    simp only at hv
    have e : (if may ls (p1, p2) n = true then orNone (toL (p1, p2) n up < 0 ∨ toL (p1, p2) n up ≥ ls.length) (((toL (p1, p2) n up, min (min (max want 0) 1073741824) (max (((ls.getD (toL (p1, p2) n up).toNat []).length : Int) - 1) 0)), 2, false, min (max want 0) 1073741824), true) else mNone) = mNone := by
      split
      · next h => rw [orNone, if_pos (by have := hm.1 h; omega)]
      · rfl
    rw [e]
    simp (maxSteps := 4000000) only [go_sem, Nat.reduceAdd, reduceCtorEq, Nat.reduceEqDiff, tk25, dz25, tk49, tz49, dz49, kVLine, aPos, aMove, aMv, mNone, ←hx]
    exact ⟨hf, hn⟩
  | true =>
    have hv := vline_t hx
    simp only at hv
    obtain ⟨v1, v2, v3, v4, v5⟩ := hv
    by_cases h1 : n < 1
    · have c1 : decide (n < 1) = true := decide_eq_true h1
      rw [if_neg (fun h => by have := hm.1 h; omega)]
      simp (maxSteps := 4000000) only [go_sem, Nat.reduceAdd, reduceCtorEq, Nat.reduceEqDiff, tk25, dz25, tk49, tz49, dz49, kVLine, aPos, aMove, aMv, mNone, ←hx, c1]
      exact ⟨hf, hn⟩
    · have c1 : decide (n < 1) = false := decide_eq_false h1
      have h6 := fits_getD hf a.toNat
      have w1 : IntKind.i64.wrap (((ls.getD a.toNat []).length : Int) - 1) = ((ls.getD a.toNat []).length : Int) - 1 := wrap64 (by omega) (by omega)
      rw [if_pos (hm.2 ⟨by omega, by omega, by omega, by omega, by omega⟩), orNone, if_neg (by rw [← v3]; omega), ← v3]
      simp (maxSteps := 4000000) only [go_sem, Nat.reduceAdd, reduceCtorEq, Nat.reduceEqDiff, Nat.reduceLeDiff, tk9, dz9, tk22, tk25, tz25, dz25, tk49, tz49, dz49, kVLine, aPos, aMove, aMv, ←hx, c1, w1]
      exact ⟨⟨hf, hn⟩, by omega, by omega⟩
def kVBy : C1 := C1.by [.sl 1 [], .id, .id, .id, .id] (lCons cStrs (lCons cPos2 (lCons (cInt .i64) (lCons (cInt .i64) (lOne cBool))))) (fun d => okText d.1 ∧ d.2.2.1 ≤ 9223372036854775807) (fun d => aMove (vertP d.1 d.2.1 d.2.2.1 d.2.2.2.1 d.2.2.2.2)) (fun _ => [])
theorem ok_vby : C1OK Tryz.prog 125 kVBy := C1OK.by (by kernel_rfl) (fun d h => calls_vby d.1 d.2.1 d.2.2.1 d.2.2.2.1 d.2.2.2.2 h.1 h.2) (fun _ => rfl) (fun _ => rfl)
theorem calls_Down (ls : Ls) (p : Int × Int) (n want : Int) (hf : okText ls) (hn : n ≤ 9223372036854775807) : CallsR Tryz.prog 109 [.sl 1 (ls.map .str), aPos p, .int .i64 n, .int .i64 want] [] (aMove (vertP ls p n want false)) [] := by
  refine callsR_of (mrg := true) (dyn := []) (CtrOK.cons ok_vby (CtrOK.nil _)) mixed Tryz.func109 rfl (by simp [Tryz.ntmps109]) (by kernel_rfl) ?_
  rw [show Tryz.f109.results.toList = [.cell 8 49, .tmp 9] from by kernel_rfl]
  simp (maxSteps := 4000000) only [go_sem, Nat.reduceAdd, reduceCtorEq, Nat.reduceEqDiff, tk25, dz25, tk49, tz49, dz49, kVBy, aPos, aMove, aMv]
  exact ⟨hf, hn⟩
theorem calls_Up (ls : Ls) (p : Int × Int) (n want : Int) (hf : okText ls) (hn : n ≤ 9223372036854775807) : CallsR Tryz.prog 110 [.sl 1 (ls.map .str), aPos p, .int .i64 n, .int .i64 want] [] (aMove (vertP ls p n want true)) [] := by
  refine callsR_of (mrg := true) (dyn := []) (CtrOK.cons ok_vby (CtrOK.nil _)) mixed Tryz.func110 rfl (by simp [Tryz.ntmps110]) (by kernel_rfl) ?_
  rw [show Tryz.f110.results.toList = [.cell 8 49, .tmp 9] from by kernel_rfl]
  simp (maxSteps := 4000000) only [go_sem, Nat.reduceAdd, reduceCtorEq, Nat.reduceEqDiff, tk25, dz25, tk49, tz49, dz49, kVBy, aPos, aMove, aMv]
  exact ⟨hf, hn⟩
def kVert (up : Bool) : C1 := C1.by [.sl 1 [], .id, .id, .id] (lCons cStrs (lCons cPos2 (lCons (cInt .i64) (lOne (cInt .i64))))) (fun d => okText d.1 ∧ d.2.2.1 ≤ 9223372036854775807) (fun d => aMove (vertP d.1 d.2.1 d.2.2.1 d.2.2.2 up)) (fun _ => [])
theorem ok_Down : C1OK Tryz.prog 109 (kVert false) := C1OK.by (by kernel_rfl) (fun d h => calls_Down d.1 d.2.1 d.2.2.1 d.2.2.2 h.1 h.2) (fun _ => rfl) (fun _ => rfl)
theorem ok_Up : C1OK Tryz.prog 110 (kVert true) := C1OK.by (by kernel_rfl) (fun d h => calls_Up d.1 d.2.1 d.2.2.1 d.2.2.2 h.1 h.2) (fun _ => rfl) (fun _ => rfl)

def firstByP (ls : Ls) (p : Int × Int) (n : Int) (up : Bool) : Mv × Bool := if 0 ≤ n ∧ (0 ≤ p.1 ∧ p.1 < ls.length ∧ 0 ≤ p.2 ∧ p.2 ≤ (ls.getD p.1.toNat []).length) then lineM ls (toL p n up) false else mNone
set_option maxHeartbeats 4000000 in
theorem calls_firstBy (ls : Ls) (p : Int × Int) (n : Int) (up : Bool) (hf : okText ls) (hn : n ≤ 9223372036854775807) : CallsR Tryz.prog 126 [.sl 1 (ls.map .str), aPos p, .int .i64 n, .bool up] [] (aMove (firstByP ls p n up)) [] := by
  refine callsR_of (mrg := true) (dyn := []) (CtrOK.cons ok_vline (CtrOK.cons ok_vfirst (CtrOK.nil _))) mixed Tryz.func126 rfl (by simp [Tryz.ntmps126]) (by kernel_rfl) ?_
  rw [show Tryz.f126.results.toList = [.cell 8 49, .tmp 9] from by kernel_rfl]
  obtain ⟨p1, p2⟩ := p
  obtain ⟨x, hx⟩ : ∃ x, x = vlineF ls (p1, p2) n up := ⟨_, rfl⟩
  obtain ⟨a, ok⟩ := x
  cases ok with
  | false =>
    have hv := vline_f hx
    simp only at hv
    have e : firstByP ls (p1, p2) n up = mNone := by
      unfold firstByP lineM
      dsimp only
      split
      · rw [if_pos (by omega)]
      · rfl
    rw [e]
    simp (maxSteps := 4000000) only [go_sem, Nat.reduceAdd, reduceCtorEq, Nat.reduceEqDiff, tk25, dz25, tk49, tz49, dz49, kVLine, kVFirst, aPos, aMove, aMv, mNone, ←hx]
    exact ⟨hf, hn⟩
  | true =>
    have hv := vline_t hx
    simp only at hv
    obtain ⟨v1, v2, v3, v4, v5⟩ := hv
    have e : firstByP ls (p1, p2) n up = (firstM ls a false, true) := by
      unfold firstByP lineM
      rw [if_pos ⟨v1, v2⟩, if_neg (by omega), ← v3]
    rw [e]
    simp (maxSteps := 4000000) only [go_sem, Nat.reduceAdd, reduceCtorEq, Nat.reduceEqDiff, tk25, dz25, tk49, tz49, dz49, kVLine, kVFirst, aPos, aMove, aMv, firstM, ←hx]
    exact ⟨⟨hf, hn⟩, hf, v4, v5⟩
def kFirstBy : C1 := C1.by [.sl 1 [], .id, .id, .id] (lCons cStrs (lCons cPos2 (lCons (cInt .i64) (lOne cBool)))) (fun d => okText d.1 ∧ d.2.2.1 ≤ 9223372036854775807) (fun d => aMove (firstByP d.1 d.2.1 d.2.2.1 d.2.2.2)) (fun _ => [])
theorem ok_firstBy : C1OK Tryz.prog 126 kFirstBy := C1OK.by (by kernel_rfl) (fun d h => calls_firstBy d.1 d.2.1 d.2.2.1 d.2.2.2 h.1 h.2) (fun _ => rfl) (fun _ => rfl)

def plusP (ls : Ls) (p : Int × Int) (n : Int) : Mv × Bool := whenMay ls p n (lineM ls (p.1 + n) false)
def minusP (ls : Ls) (p : Int × Int) (n : Int) : Mv × Bool := whenMay ls p n (lineM ls (p.1 - n) false)
def underP (ls : Ls) (p : Int × Int) (n : Int) : Mv × Bool := whenMay ls p n (lineM ls (p.1 + n - 1) false)
set_option maxHeartbeats 4000000 in
theorem calls_Plus (ls : Ls) (p : Int × Int) (n : Int) (hf : okText ls) (hn : n ≤ 9223372036854775807) : CallsR Tryz.prog 111 [.sl 1 (ls.map .str), aPos p, .int .i64 n] [] (aMove (plusP ls p n)) [] := by
  refine callsR_of (mrg := true) (dyn := []) (CtrOK.cons ok_firstBy (CtrOK.nil _)) mixed Tryz.func111 rfl (by simp [Tryz.ntmps111]) (by kernel_rfl) ?_
  rw [show Tryz.f111.results.toList = [.cell 6 49, .tmp 7] from by kernel_rfl]
  obtain ⟨p1, p2⟩ := p
  have hm := may_iff ls (p1, p2) n
  simp only at hm
  by_cases h1 : n < 1
  · have c1 : decide (n < 1) = true := decide_eq_true h1
    rw [plusP, whenMay, if_neg (fun h => by have := hm.1 h; omega)]
    simp (maxSteps := 4000000) only [go_sem, Nat.reduceAdd, reduceCtorEq, Nat.reduceEqDiff, tk49, tz49, dz49, kFirstBy, aPos, aMove, aMv, mNone, c1]
  · have c1 : decide (n < 1) = false := decide_eq_false h1
    have w1 : IntKind.i64.wrap (n - 1) = n - 1 := wrap64 (by omega) (by omega)
    have e : plusP ls (p1, p2) n = firstByP ls (p1, p2) n false := by
      unfold plusP whenMay firstByP toL
      dsimp only
      by_cases h : may ls (p1, p2) n = true
      · rw [if_pos h, if_pos (by have := hm.1 h; omega)]
        simp only [Bool.false_eq_true, if_false]
        try rw [show p1 + n - 1 = p1 + (n - 1) by omega]
      · rw [if_neg h, if_neg (fun g => h (hm.2 (by omega)))]
    rw [e]
    simp (maxSteps := 4000000) only [go_sem, Nat.reduceAdd, reduceCtorEq, Nat.reduceEqDiff, tk25, dz25, tk49, tz49, dz49, kFirstBy, aPos, aMove, aMv, c1]
    exact ⟨hf, by omega⟩
theorem ok_Plus : C1OK Tryz.prog 111 (kMvN plusP) := C1OK.by (by kernel_rfl) (fun d h => calls_Plus d.1 d.2.1 d.2.2 h.1 h.2) (fun _ => rfl) (fun _ => rfl)
set_option maxHeartbeats 4000000 in
theorem calls_Minus (ls : Ls) (p : Int × Int) (n : Int) (hf : okText ls) (hn : n ≤ 9223372036854775807) : CallsR Tryz.prog 112 [.sl 1 (ls.map .str), aPos p, .int .i64 n] [] (aMove (minusP ls p n)) [] := by
  refine callsR_of (mrg := true) (dyn := []) (CtrOK.cons ok_firstBy (CtrOK.nil _)) mixed Tryz.func112 rfl (by simp [Tryz.ntmps112]) (by kernel_rfl) ?_
  rw [show Tryz.f112.results.toList = [.cell 6 49, .tmp 7] from by kernel_rfl]
  obtain ⟨p1, p2⟩ := p
  have hm := may_iff ls (p1, p2) n
  simp only at hm
  by_cases h1 : n < 1
  · have c1 : decide (n < 1) = true := decide_eq_true h1
    rw [minusP, whenMay, if_neg (fun h => by have := hm.1 h; omega)]
    simp (maxSteps := 4000000) only [go_sem, Nat.reduceAdd, reduceCtorEq, Nat.reduceEqDiff, tk49, tz49, dz49, kFirstBy, aPos, aMove, aMv, mNone, c1]
  · have c1 : decide (n < 1) = false := decide_eq_false h1
    have w1 : IntKind.i64.wrap (n - 1) = n - 1 := wrap64 (by omega) (by omega)
    have e : minusP ls (p1, p2) n = firstByP ls (p1, p2) n true := by
      unfold minusP whenMay firstByP toL
      dsimp only
      by_cases h : may ls (p1, p2) n = true
      · rw [if_pos h, if_pos (by have := hm.1 h; omega)]
        simp only [if_true]
        try rw [show p1 + n - 1 = p1 + (n - 1) by omega]
      · rw [if_neg h, if_neg (fun g => h (hm.2 (by omega)))]
    rw [e]
    simp (maxSteps := 4000000) only [go_sem, Nat.reduceAdd, reduceCtorEq, Nat.reduceEqDiff, tk25, dz25, tk49, tz49, dz49, kFirstBy, aPos, aMove, aMv, c1]
    exact ⟨hf, by omega⟩
theorem ok_Minus : C1OK Tryz.prog 112 (kMvN minusP) := C1OK.by (by kernel_rfl) (fun d h => calls_Minus d.1 d.2.1 d.2.2 h.1 h.2) (fun _ => rfl) (fun _ => rfl)
set_option maxHeartbeats 4000000 in
theorem calls_Under (ls : Ls) (p : Int × Int) (n : Int) (hf : okText ls) (hn : n ≤ 9223372036854775807) : CallsR Tryz.prog 113 [.sl 1 (ls.map .str), aPos p, .int .i64 n] [] (aMove (underP ls p n)) [] := by
  refine callsR_of (mrg := true) (dyn := []) (CtrOK.cons ok_firstBy (CtrOK.nil _)) mixed Tryz.func113 rfl (by simp [Tryz.ntmps113]) (by kernel_rfl) ?_
  rw [show Tryz.f113.results.toList = [.cell 6 49, .tmp 7] from by kernel_rfl]
  obtain ⟨p1, p2⟩ := p
  have hm := may_iff ls (p1, p2) n
  simp only at hm
  by_cases h1 : n < 1
  · have c1 : decide (n < 1) = true := decide_eq_true h1
    rw [underP, whenMay, if_neg (fun h => by have := hm.1 h; omega)]
    simp (maxSteps := 4000000) only [go_sem, Nat.reduceAdd, reduceCtorEq, Nat.reduceEqDiff, tk49, tz49, dz49, kFirstBy, aPos, aMove, aMv, mNone, c1]
  · have c1 : decide (n < 1) = false := decide_eq_false h1
    have w1 : IntKind.i64.wrap (n - 1) = n - 1 := wrap64 (by omega) (by omega)
    have e : underP ls (p1, p2) n = firstByP ls (p1, p2) (n - 1) false := by
      unfold underP whenMay firstByP toL
      dsimp only
      by_cases h : may ls (p1, p2) n = true
      · rw [if_pos h, if_pos (by have := hm.1 h; omega)]
        simp only [Bool.false_eq_true, if_false]
        try rw [show p1 + n - 1 = p1 + (n - 1) by omega]
      · rw [if_neg h, if_neg (fun g => h (hm.2 (by omega)))]
    rw [e]
    simp (maxSteps := 4000000) only [go_sem, Nat.reduceAdd, reduceCtorEq, Nat.reduceEqDiff, tk25, dz25, tk49, tz49, dz49, kFirstBy, aPos, aMove, aMv, c1, w1]
    exact ⟨hf, by omega⟩
theorem ok_Under : C1OK Tryz.prog 113 (kMvN underP) := C1OK.by (by kernel_rfl) (fun d h => calls_Under d.1 d.2.1 d.2.2 h.1 h.2) (fun _ => rfl) (fun _ => rfl)
def gotoP (ls : Ls) (p : Int × Int) (n : Int) : Mv × Bool := whenMay ls p n (lineM ls (n - 1) true)
set_option maxHeartbeats 4000000 in
theorem calls_Goto (ls : Ls) (p : Int × Int) (n : Int) (hf : okText ls) : CallsR Tryz.prog 114 [.sl 1 (ls.map .str), aPos p, .int .i64 n] [] (aMove (gotoP ls p n)) [] := by
  refine callsR_of (mrg := true) (dyn := []) (CtrOK.cons ok_CPlace (CtrOK.cons ok_vfirst (CtrOK.nil _))) mixed Tryz.func114 rfl (by simp [Tryz.ntmps114]) (by kernel_rfl) ?_
  rw [show Tryz.f114.results.toList = [.cell 6 49, .tmp 7] from by kernel_rfl]
  obtain ⟨p1, p2⟩ := p
  have hm := may_iff ls (p1, p2) n
  simp only at hm
  have h8 := hf.1
  have hpl : place ls p1 p2 = (decide (p1 ≥ 0) && decide (p1 < (ls.length : Int)) && decide (p2 ≥ 0) && decide (p2 ≤ ((ls.getD p1.toNat []).length : Int))) := rfl
  by_cases hg : may ls (p1, p2) n = true ∧ n ≤ ls.length
  · obtain ⟨hg, h2⟩ := hg
    have hi := hm.1 hg
    have c1 : decide (n < 1) = false := decide_eq_false (by omega)
    have c2 : decide (n > (ls.length : Int)) = false := decide_eq_false (by omega)
    have c3 : place ls p1 p2 = true := by rw [hpl]; simp only [Bool.and_eq_true, decide_eq_true_eq]; omega
    have w1 : IntKind.i64.wrap (n - 1) = n - 1 := wrap64 (by omega) (by omega)
    rw [gotoP, whenMay, if_pos hg, lineM, if_neg (by omega)]
    simp (maxSteps := 4000000) only [go_sem, Nat.reduceAdd, reduceCtorEq, Nat.reduceEqDiff, Nat.reduceLeDiff, tk4, tk22, tk25, dz25, tk49, tz49, dz49, kRPlace, kVFirst, aPos, aMove, aMv, firstM, c1, c2, c3, w1]
    exact ⟨hf, by omega, by omega⟩
  · have c1 : (decide (n < 1) || decide (n > (ls.length : Int)) || !place ls p1 p2) = true := by
      rw [hpl]; simp only [Bool.or_eq_true, decide_eq_true_eq, Bool.not_eq_true', Bool.and_eq_false_iff, decide_eq_false_iff_not]
      by_cases hgg : may ls (p1, p2) n = true
      · have : ¬ n ≤ ls.length := fun h => hg ⟨hgg, h⟩
        omega
      · have : ¬ (1 ≤ n ∧ 0 ≤ p1 ∧ p1.toNat < ls.length ∧ 0 ≤ p2 ∧ p2 ≤ (ls.getD p1.toNat []).length) := fun h => hgg (hm.2 h)
        omega
    have e : gotoP ls (p1, p2) n = mNone := by
      unfold gotoP whenMay lineM
      split
      · next h => rw [if_pos (by have : ¬ n ≤ ls.length := fun h2 => hg ⟨h, h2⟩; omega)]
      · rfl
    rw [e]
    simp (maxSteps := 4000000) only [go_sem, Nat.reduceAdd, reduceCtorEq, Nat.reduceEqDiff, tk22, tk25, dz25, tk49, tz49, dz49, kRPlace, kVFirst, aPos, aMove, aMv, mNone, c1]
    all_goals (intros; simp_all)
theorem ok_Goto : C1OK Tryz.prog 114 (kMvN gotoP) := C1OK.by (by kernel_rfl) (fun d h => calls_Goto d.1 d.2.1 d.2.2 h.1) (fun _ => rfl) (fun _ => rfl)

/-- A line of the window. -/
def screenTo (ls : Ls) (top : Int) (key : UInt8) (n : Int) : Mv × Bool :=
  if key = 72 then lineM ls (top + (min n (min 10 (ls.length - top)) - 1)) true
  else if key = 76 then lineM ls (top + (min 10 (ls.length - top) - min n (min 10 (ls.length - top)))) true
  else if key = 77 then lineM ls (top + (min 10 (ls.length - top) - 1) / 2) true
  else mNone
def screenP (ls : Ls) (p : Int × Int) (top : Int) (key : UInt8) (n : Int) : Mv × Bool :=
  whenMay ls p n (orNone (max top 0 ≥ ls.length) (screenTo ls (max top 0) key n))
set_option maxRecDepth 20000 in
set_option maxHeartbeats 4000000 in
theorem calls_Screen (ls : Ls) (p : Int × Int) (top : Int) (key : UInt8) (n : Int) (hf : okText ls) : CallsR Tryz.prog 116 [.sl 1 (ls.map .str), aPos p, .int .i64 top, byteA key, .int .i64 n] [] (aMove (screenP ls p top key n)) [] := by
  refine callsR_of (mrg := true) (dyn := []) (CtrOK.cons ok_CPlace (CtrOK.cons ok_vfirst (CtrOK.nil _))) mixed Tryz.func116 rfl (by simp [Tryz.ntmps116]) (by kernel_rfl) ?_
  rw [show Tryz.f116.results.toList = [.cell 10 49, .tmp 11] from by kernel_rfl]
  obtain ⟨p1, p2⟩ := p
  have hm := may_iff ls (p1, p2) n
  simp only at hm
  have h8 := hf.1
  obtain ⟨t, ht⟩ : ∃ t, t = max top 0 := ⟨_, rfl⟩
  have ht0 : 0 ≤ t := by omega
  have hpl : place ls p1 p2 = (decide (p1 ≥ 0) && decide (p1 < (ls.length : Int)) && decide (p2 ≥ 0) && decide (p2 ≤ ((ls.getD p1.toNat []).length : Int))) := rfl
  unfold screenP whenMay
  rw [← ht]
  by_cases hg : may ls (p1, p2) n = true ∧ t < ls.length
  · obtain ⟨hg, h2⟩ := hg
    have hi := hm.1 hg
    have c1 : decide (n < 1) = false := decide_eq_false (by omega)
    have c2 : decide (t ≥ (ls.length : Int)) = false := decide_eq_false (by omega)
    have c3 : place ls p1 p2 = true := by rw [hpl]; simp only [Bool.and_eq_true, decide_eq_true_eq]; omega
    have w1 : IntKind.i64.wrap ((ls.length : Int) - t) = (ls.length : Int) - t := wrap64 (by omega) (by omega)
    obtain ⟨k, hk⟩ : ∃ k, k = min 10 ((ls.length : Int) - t) := ⟨_, rfl⟩
    have hk1 : 1 ≤ k ∧ k ≤ 10 ∧ t + k ≤ ls.length := by omega
    obtain ⟨m, hmm⟩ : ∃ m, m = min n k := ⟨_, rfl⟩
    have hm1 : 1 ≤ m ∧ m ≤ k := by omega
    rw [if_pos hg, orNone, if_neg (by omega), screenTo, ← hk, ← hmm]
    have w2 : IntKind.i64.wrap (m - 1) = m - 1 := wrap64 (by omega) (by omega)
    have w3 : IntKind.i64.wrap (k - m) = k - m := wrap64 (by omega) (by omega)
    have w4 : IntKind.i64.wrap (k - 1) = k - 1 := wrap64 (by omega) (by omega)
    by_cases hk72 : key = 72
    · subst hk72
      have w5 : IntKind.i64.wrap (t + (m - 1)) = t + (m - 1) := wrap64 (by omega) (by omega)
      have wt : IntKind.i64.wrap ((k - 1).tdiv 2) = (k - 1) / 2 := by rw [Int.tdiv_eq_ediv_of_nonneg (by omega)]; exact wrap64 (by omega) (by omega)
      rw [if_pos rfl, lineM, if_neg (by omega)]
      simp (maxSteps := 4000000) only [go_sem, Nat.reduceAdd, reduceCtorEq, Nat.reduceEqDiff, Nat.reduceLeDiff, tk4, tk22, tk25, dz25, tk49, tz49, dz49, kRPlace, kVFirst, aPos, aMove, aMv, firstM, ←ht, c1, c2, c3, w1, ←hk, ←hmm, w2, w5, byteA, UInt8.reduceToNat]
      first | exact ⟨hf, by omega, by omega⟩ | exact ⟨by decide, hf, by omega, by omega⟩
    by_cases hk76 : key = 76
    · subst hk76
      have w5 : IntKind.i64.wrap (t + (k - m)) = t + (k - m) := wrap64 (by omega) (by omega)
      have wt : IntKind.i64.wrap ((k - 1).tdiv 2) = (k - 1) / 2 := by rw [Int.tdiv_eq_ediv_of_nonneg (by omega)]; exact wrap64 (by omega) (by omega)
      rw [if_neg (by decide), if_pos rfl, lineM, if_neg (by omega)]
      simp (maxSteps := 4000000) only [go_sem, Nat.reduceAdd, reduceCtorEq, Nat.reduceEqDiff, Int.reduceBEq, Nat.reduceLeDiff, tk4, tk22, tk25, dz25, tk49, tz49, dz49, kRPlace, kVFirst, aPos, aMove, aMv, firstM, ←ht, c1, c2, c3, w1, ←hk, ←hmm, w3, w5, byteA, UInt8.reduceToNat]
      first | exact ⟨hf, by omega, by omega⟩ | exact ⟨by decide, hf, by omega, by omega⟩
    by_cases hk77 : key = 77
    · subst hk77
      have w5 : IntKind.i64.wrap (t + (k - 1) / 2) = t + (k - 1) / 2 := wrap64 (by omega) (by omega)
      have wt : IntKind.i64.wrap ((k - 1).tdiv 2) = (k - 1) / 2 := by rw [Int.tdiv_eq_ediv_of_nonneg (by omega)]; exact wrap64 (by omega) (by omega)
      rw [if_neg (by decide), if_neg (by decide), if_pos rfl, lineM, if_neg (by omega)]
      simp (maxSteps := 4000000) only [go_sem, Nat.reduceAdd, reduceCtorEq, Nat.reduceEqDiff, Int.reduceBEq, Nat.reduceLeDiff, tk4, tk22, tk25, dz25, tk49, tz49, dz49, kRPlace, kVFirst, aPos, aMove, aMv, firstM, ←ht, c1, c2, c3, w1, ←hk, ←hmm, w4, w5, wt, byteA, UInt8.reduceToNat]
      first | exact ⟨hf, by omega, by omega⟩ | exact ⟨by decide, hf, by omega, by omega⟩
    have e1 := byte_lit key 72 72 rfl hk72
    have e2 := byte_lit key 76 76 rfl hk76
    have e3 := byte_lit key 77 77 rfl hk77
    rw [if_neg hk72, if_neg hk76, if_neg hk77]
    simp (maxSteps := 4000000) only [go_sem, Nat.reduceAdd, reduceCtorEq, Nat.reduceEqDiff, tk22, tk25, dz25, tk49, tz49, dz49, kRPlace, kVFirst, aPos, aMove, aMv, mNone, ←ht, c1, c2, c3, w1, e1, e2, e3]
  · have c1 : (decide (n < 1) || !place ls p1 p2 || decide (t ≥ (ls.length : Int))) = true := by
      rw [hpl]; simp only [Bool.or_eq_true, decide_eq_true_eq, Bool.not_eq_true', Bool.and_eq_false_iff, decide_eq_false_iff_not]
      by_cases hgg : may ls (p1, p2) n = true
      · have : ¬ t < ls.length := fun h => hg ⟨hgg, h⟩
        omega
      · have : ¬ (1 ≤ n ∧ 0 ≤ p1 ∧ p1.toNat < ls.length ∧ 0 ≤ p2 ∧ p2 ≤ (ls.getD p1.toNat []).length) := fun h => hgg (hm.2 h)
        omega
    have e : (if may ls (p1, p2) n = true then orNone (t ≥ ls.length) (screenTo ls t key n) else mNone) = mNone := by
      unfold orNone
      split
      · next h => rw [if_pos (by have : ¬ t < ls.length := fun h2 => hg ⟨h, h2⟩; omega)]
      · rfl
    rw [e]
    simp (maxSteps := 4000000) only [go_sem, Nat.reduceAdd, reduceCtorEq, Nat.reduceEqDiff, tk22, tk25, dz25, tk49, tz49, dz49, kRPlace, kVFirst, aPos, aMove, aMv, mNone, ←ht, c1]
    all_goals (intros; simp_all)
def kScreen : C1 := C1.by [.sl 1 [], .id, .id, .id, .id] (lCons cStrs (lCons cPos2 (lCons (cInt .i64) (lCons cByte (lOne (cInt .i64)))))) (fun d => okText d.1) (fun d => aMove (screenP d.1 d.2.1 d.2.2.1 d.2.2.2.1 d.2.2.2.2)) (fun _ => [])
theorem ok_Screen : C1OK Tryz.prog 116 kScreen := C1OK.by (by kernel_rfl) (fun d h => calls_Screen d.1 d.2.1 d.2.2.1 d.2.2.2.1 d.2.2.2.2 h) (fun _ => rfl) (fun _ => rfl)
end Go.Pg
