/- Motions within a line: the program's. -/
import Derived.Test.YtkkcfkggfpoagaaGreatPgBs
import Derived.Test.YtkkcfkggfpoagaaGreatPgFx3
set_option linter.unusedVariables false
set_option linter.unusedSimpArgs false
namespace Go.Pg
open Go Go.Proofs

abbrev byteA (b : UInt8) : AV := .int .u8 b.toNat
theorem may_iff (ls : Ls) (p : Int × Int) (n : Int) : may ls p n = true ↔ 1 ≤ n ∧ 0 ≤ p.1 ∧ p.1.toNat < ls.length ∧ 0 ≤ p.2 ∧ p.2 ≤ (ls.getD p.1.toNat []).length := by
  simp only [may, Bool.and_eq_true, decide_eq_true_eq, place_iff]
  omega
def toC (p : Int × Int) (c : Int) : Mv × Bool := mTo (p.1, c) 0

theorem calls_cfails (ls : Ls) (p : Int × Int) (n : Int) : CallsR Tryz.prog 75 [.sl 1 (ls.map .str), aPos p, .int .i64 n] [] (.bool (!may ls p n)) [] := by
  refine callsR_of (mrg := true) (dyn := []) (CtrOK.cons ok_CPlace (CtrOK.nil _)) mixed Tryz.func75 rfl (by simp [Tryz.ntmps75]) (by kernel_rfl) ?_
  rw [show Tryz.f75.results.toList = [.tmp 6] from by kernel_rfl]
  simp (maxSteps := 4000000) only [go_sem, Nat.reduceAdd, reduceCtorEq, Nat.reduceEqDiff, tk25, dz25, kRPlace, aPos]
  rw [Bool.eq_iff_iff]
  simp only [may, Bool.or_eq_true, decide_eq_true_eq, Bool.not_eq_true', Bool.and_eq_false_iff, decide_eq_false_iff_not]
  constructor
  · rintro (h | h)
    · right; omega
    · left; exact h
  · rintro (h | h)
    · right; exact h
    · left; omega
def kCFails : C1 := C1.by [.sl 1 [], .id, .id] (lCons cStrs (lCons cPos2 (lOne (cInt .i64)))) (fun _ => True) (fun d => .bool (!may d.1 d.2.1 d.2.2)) (fun _ => [])
theorem ok_cfails : C1OK Tryz.prog 75 kCFails := C1OK.by (by kernel_rfl) (fun d _ => calls_cfails d.1 d.2.1 d.2.2) (fun _ => rfl) (fun _ => rfl)
theorem calls_cto (p : Int × Int) (c : Int) : CallsR Tryz.prog 76 [aPos p, .int .i64 c] [] (aMove (toC p c)) [] := by
  refine callsR_of (mrg := true) (dyn := []) (CtrOK.nil _) mixed Tryz.func76 rfl (by simp [Tryz.ntmps76]) (by kernel_rfl) ?_
  rw [show Tryz.f76.results.toList = [.cell 4 49, .tmp 5] from by kernel_rfl]
  simp (maxSteps := 4000000) only [go_sem, Nat.reduceAdd, reduceCtorEq, Nat.reduceEqDiff, Nat.reduceLeDiff, tk3, tk25, tz25, dz25, tk49, tz49, dz49, aPos, aMove, aMv, toC, mTo]
def kCTo : C1 := C1.by [.id, .id] (lCons cPos2 (lOne (cInt .i64))) (fun _ => True) (fun d => aMove (toC d.1 d.2)) (fun _ => [])
theorem ok_cto : C1OK Tryz.prog 76 kCTo := C1OK.by (by kernel_rfl) (fun d _ => calls_cto d.1 d.2) (fun _ => rfl) (fun _ => rfl)

abbrev okText (ls : Ls) : Prop := fits 65536 65536 ls
def whenMay (ls : Ls) (p : Int × Int) (n : Int) (r : Mv × Bool) : Mv × Bool := if may ls p n = true then r else mNone
def orNone (c : Prop) [Decidable c] (r : Mv × Bool) : Mv × Bool := if c then mNone else r
def leftP (ls : Ls) (p : Int × Int) (n : Int) : Mv × Bool := whenMay ls p n (orNone (p.2 = 0) (toC p (p.2 - min n p.2)))
def rightP (ls : Ls) (p : Int × Int) (n : Int) (past : Bool) : Mv × Bool :=
  whenMay ls p n (orNone ((ls.getD p.1.toNat []).length = 0 ∨ p.2 ≥ ((ls.getD p.1.toNat []).length : Int) - (if past = true then 0 else 1))
    (toC p (p.2 + min n (((ls.getD p.1.toNat []).length : Int) - (if past = true then 0 else 1) - p.2))))
def zeroP (ls : Ls) (p : Int × Int) : Mv × Bool := whenMay ls p 1 (toC p 0)
def firstP (ls : Ls) (p : Int × Int) : Mv × Bool := whenMay ls p 1 (toC p (firstC (ls.getD p.1.toNat [])))
def lastP (ls : Ls) (p : Int × Int) (n : Int) : Mv × Bool :=
  whenMay ls p n (orNone (n > ls.length - p.1) (((p.1 + n - 1, max (((ls.getD (p.1 + n - 1).toNat []).length : Int) - 1) 0), 1, false, 1073741824), true))
def colP (ls : Ls) (p : Int × Int) (n : Int) : Mv × Bool :=
  whenMay ls p n (((p.1, min (min n 1073741824 - 1) (max (((ls.getD p.1.toNat []).length : Int) - 1) 0)), 0, false, min n 1073741824 - 1), true)

def kMv0 (f : Ls → Int × Int → Mv × Bool) : C1 := C1.by [.sl 1 [], .id] (lCons cStrs (lOne cPos2)) (fun d => okText d.1) (fun d => aMove (f d.1 d.2)) (fun _ => [])
def kMvN (f : Ls → Int × Int → Int → Mv × Bool) : C1 := C1.by [.sl 1 [], .id, .id] (lCons cStrs (lCons cPos2 (lOne (cInt .i64)))) (fun d => okText d.1 ∧ d.2.2 ≤ 9223372036854775807) (fun d => aMove (f d.1 d.2.1 d.2.2)) (fun _ => [])
def kMvNB (f : Ls → Int × Int → Int → Bool → Mv × Bool) : C1 := C1.by [.sl 1 [], .id, .id, .id] (lCons cStrs (lCons cPos2 (lCons (cInt .i64) (lOne cBool)))) (fun d => okText d.1 ∧ d.2.2.1 ≤ 9223372036854775807) (fun d => aMove (f d.1 d.2.1 d.2.2.1 d.2.2.2)) (fun _ => [])

set_option maxHeartbeats 4000000 in
theorem calls_Left (ls : Ls) (p : Int × Int) (n : Int) (hf : okText ls) : CallsR Tryz.prog 35 [.sl 1 (ls.map .str), aPos p, .int .i64 n] [] (aMove (leftP ls p n)) [] := by
  refine callsR_of (mrg := true) (dyn := []) (CtrOK.cons ok_cfails (CtrOK.cons ok_cto (CtrOK.nil _))) mixed Tryz.func35 rfl (by simp [Tryz.ntmps35]) (by kernel_rfl) ?_
  rw [show Tryz.f35.results.toList = [.cell 6 49, .tmp 7] from by kernel_rfl]
  obtain ⟨p1, p2⟩ := p
  generalize hr : leftP ls (p1, p2) n = r
  obtain ⟨⟨⟨r1, r2⟩, r3, r4, r5⟩, r6⟩ := r
  have h6 := fits_getD hf p1.toNat
  have h8 := hf.1
  all_goals
    simp (maxSteps := 4000000) only [go_sem, Nat.reduceAdd, reduceCtorEq, Nat.reduceEqDiff, tk3, tk25, dz25, tk49, tz49, dz49, kCFails, kCTo, aPos, aMove, aMv, toC, mTo]
    simp only [leftP, whenMay, orNone, may, place, mNone, toC, mTo, IntKind.wrap_i64, Bool.or_eq_true, Bool.and_eq_true, Bool.or_eq_false_iff, Bool.and_eq_false_iff, decide_eq_true_eq, decide_eq_false_iff_not, beq_iff_eq, beq_eq_false_iff_ne, ne_eq] at *
    (repeat' split at hr) <;> cases hr <;> (repeat' (first | intro _ | apply And.intro)) <;> (first | rfl | omega | (exfalso; omega))
theorem ok_Left : C1OK Tryz.prog 35 (kMvN leftP) := C1OK.by (by kernel_rfl) (fun d h => calls_Left d.1 d.2.1 d.2.2 h.1) (fun _ => rfl) (fun _ => rfl)

set_option maxHeartbeats 4000000 in
theorem calls_Right (ls : Ls) (p : Int × Int) (n : Int) (b : Bool) (hf : okText ls) : CallsR Tryz.prog 36 [.sl 1 (ls.map .str), aPos p, .int .i64 n, .bool b] [] (aMove (rightP ls p n b)) [] := by
  refine callsR_of (mrg := true) (dyn := []) (CtrOK.cons ok_cfails (CtrOK.cons ok_cto (CtrOK.nil _))) mixed Tryz.func36 rfl (by simp [Tryz.ntmps36]) (by kernel_rfl) ?_
  rw [show Tryz.f36.results.toList = [.cell 8 49, .tmp 9] from by kernel_rfl]
  obtain ⟨p1, p2⟩ := p
  generalize hr : rightP ls (p1, p2) n b = r
  obtain ⟨⟨⟨r1, r2⟩, r3, r4, r5⟩, r6⟩ := r
  have h6 := fits_getD hf p1.toNat
  have h8 := hf.1
  cases b
  all_goals
    simp (maxSteps := 4000000) only [go_sem, Nat.reduceAdd, reduceCtorEq, Nat.reduceEqDiff, tk3, tk9, dz9, tk22, tk25, dz25, tk49, tz49, dz49, kCFails, kCTo, aPos, aMove, aMv, toC, mTo]
    simp only [rightP, whenMay, orNone, may, place, mNone, toC, mTo, IntKind.wrap_i64, Bool.or_eq_true, Bool.and_eq_true, Bool.or_eq_false_iff, Bool.and_eq_false_iff, Bool.not_eq_false', decide_eq_true_eq, decide_eq_false_iff_not, beq_iff_eq, beq_eq_false_iff_ne, ne_eq, ← List.length_eq_zero_iff, Bool.false_eq_true, if_true, if_false] at *
    (repeat' split at hr) <;> cases hr <;> (repeat' (first | intro _ | apply And.intro)) <;> (first | rfl | omega | (exfalso; omega))
theorem ok_Right : C1OK Tryz.prog 36 (kMvNB rightP) := C1OK.by (by kernel_rfl) (fun d h => calls_Right d.1 d.2.1 d.2.2.1 d.2.2.2 h.1) (fun _ => rfl) (fun _ => rfl)

set_option maxHeartbeats 4000000 in
theorem calls_Zero (ls : Ls) (p : Int × Int) (hf : okText ls) : CallsR Tryz.prog 37 [.sl 1 (ls.map .str), aPos p] [] (aMove (zeroP ls p)) [] := by
  refine callsR_of (mrg := true) (dyn := []) (CtrOK.cons ok_cfails (CtrOK.cons ok_cto (CtrOK.nil _))) mixed Tryz.func37 rfl (by simp [Tryz.ntmps37]) (by kernel_rfl) ?_
  rw [show Tryz.f37.results.toList = [.cell 4 49, .tmp 5] from by kernel_rfl]
  obtain ⟨p1, p2⟩ := p
  generalize hr : zeroP ls (p1, p2) = r
  obtain ⟨⟨⟨r1, r2⟩, r3, r4, r5⟩, r6⟩ := r
  have h6 := fits_getD hf p1.toNat
  have h8 := hf.1
  all_goals
    simp (maxSteps := 4000000) only [go_sem, Nat.reduceAdd, reduceCtorEq, Nat.reduceEqDiff, tk25, dz25, tk49, tz49, dz49, kCFails, kCTo, aPos, aMove, aMv, toC, mTo]
    simp only [zeroP, whenMay, may, place, mNone, toC, mTo, Bool.and_eq_true, Bool.and_eq_false_iff, Bool.not_eq_false', decide_eq_true_eq, decide_eq_false_iff_not] at *
    (repeat' split at hr) <;> cases hr <;> (repeat' (first | intro _ | apply And.intro)) <;> (first | rfl | omega | (exfalso; omega))
theorem ok_Zero : C1OK Tryz.prog 37 (kMv0 zeroP) := C1OK.by (by kernel_rfl) (fun d h => calls_Zero d.1 d.2 h) (fun _ => rfl) (fun _ => rfl)

set_option maxHeartbeats 4000000 in
theorem calls_CFirst (ls : Ls) (p : Int × Int) (hf : okText ls) : CallsR Tryz.prog 38 [.sl 1 (ls.map .str), aPos p] [] (aMove (firstP ls p)) [] := by
  refine callsR_of (mrg := true) (dyn := []) (CtrOK.cons ok_cfails (CtrOK.cons ok_cto (CtrOK.cons ok_First (CtrOK.nil _)))) mixed Tryz.func38 rfl (by simp [Tryz.ntmps38]) (by kernel_rfl) ?_
  rw [show Tryz.f38.results.toList = [.cell 4 49, .tmp 5] from by kernel_rfl]
  obtain ⟨p1, p2⟩ := p
  generalize hr : firstP ls (p1, p2) = r
  obtain ⟨⟨⟨r1, r2⟩, r3, r4, r5⟩, r6⟩ := r
  have h6 := fits_getD hf p1.toNat
  have h8 := hf.1
  all_goals
    simp (maxSteps := 4000000) only [go_sem, Nat.reduceAdd, reduceCtorEq, Nat.reduceEqDiff, tk3, tk9, dz9, tk22, tk25, dz25, tk49, tz49, dz49, kCFails, kCTo, kFirst, aPos, aMove, aMv, toC, mTo]
    simp only [firstP, whenMay, may, place, mNone, toC, mTo, Bool.and_eq_true, Bool.and_eq_false_iff, Bool.not_eq_false', decide_eq_true_eq, decide_eq_false_iff_not] at *
    (repeat' split at hr) <;> cases hr <;> (repeat' (first | intro _ | apply And.intro)) <;> (first | rfl | omega | (exfalso; omega))
theorem ok_CFirst : C1OK Tryz.prog 38 (kMv0 firstP) := C1OK.by (by kernel_rfl) (fun d h => calls_CFirst d.1 d.2 h) (fun _ => rfl) (fun _ => rfl)

set_option maxHeartbeats 4000000 in
theorem calls_Column (ls : Ls) (p : Int × Int) (n : Int) (hf : okText ls) : CallsR Tryz.prog 40 [.sl 1 (ls.map .str), aPos p, .int .i64 n] [] (aMove (colP ls p n)) [] := by
  refine callsR_of (mrg := true) (dyn := []) (CtrOK.cons ok_cfails (CtrOK.cons ok_cto (CtrOK.nil _))) mixed Tryz.func40 rfl (by simp [Tryz.ntmps40]) (by kernel_rfl) ?_
  rw [show Tryz.f40.results.toList = [.cell 6 49, .tmp 7] from by kernel_rfl]
  obtain ⟨p1, p2⟩ := p
  generalize hr : colP ls (p1, p2) n = r
  obtain ⟨⟨⟨r1, r2⟩, r3, r4, r5⟩, r6⟩ := r
  have h6 := fits_getD hf p1.toNat
  have h8 := hf.1
  all_goals
    simp (maxSteps := 4000000) only [go_sem, Nat.reduceAdd, reduceCtorEq, Nat.reduceEqDiff, tk3, tk9, dz9, tk22, tk25, dz25, tk49, tz49, dz49, kCFails, kCTo, aPos, aMove, aMv, toC, mTo]
    simp only [colP, whenMay, may, place, mNone, IntKind.wrap_i64, Bool.and_eq_true, Bool.and_eq_false_iff, Bool.not_eq_false', decide_eq_true_eq, decide_eq_false_iff_not] at *
    (repeat' split at hr) <;> cases hr <;> (repeat' (first | intro _ | apply And.intro)) <;> (first | rfl | omega | (exfalso; omega))
theorem ok_Column : C1OK Tryz.prog 40 (kMvN colP) := C1OK.by (by kernel_rfl) (fun d h => calls_Column d.1 d.2.1 d.2.2 h.1) (fun _ => rfl) (fun _ => rfl)

set_option maxHeartbeats 4000000 in
theorem calls_CLast (ls : Ls) (p : Int × Int) (n : Int) (hf : okText ls) : CallsR Tryz.prog 39 [.sl 1 (ls.map .str), aPos p, .int .i64 n] [] (aMove (lastP ls p n)) [] := by
  refine callsR_of (mrg := true) (dyn := []) (CtrOK.cons ok_cfails (CtrOK.nil _)) mixed Tryz.func39 rfl (by simp [Tryz.ntmps39]) (by kernel_rfl) ?_
  rw [show Tryz.f39.results.toList = [.cell 6 49, .tmp 7] from by kernel_rfl]
  obtain ⟨p1, p2⟩ := p
  generalize hr : lastP ls (p1, p2) n = r
  obtain ⟨⟨⟨r1, r2⟩, r3, r4, r5⟩, r6⟩ := r
  have h6 := fits_getD hf p1.toNat
  have h7 := fits_getD hf (p1 + n - 1).toNat
  have h8 := hf.1
  by_cases hg : may ls (p1, p2) n = true ∧ n ≤ ls.length - p1
  · obtain ⟨hm, hg⟩ := hg
    have hi := (may_iff _ _ _).1 hm
    simp only at hi
    have w1 : decide (n > IntKind.i64.wrap ((ls.length : Int) - p1)) = false := by rw [wrap64 (by omega) (by omega)]; exact decide_eq_false (by omega)
    have w2 : IntKind.i64.wrap (p1 + n) = p1 + n := wrap64 (by omega) (by omega)
    have w3 : IntKind.i64.wrap (p1 + n - 1) = p1 + n - 1 := wrap64 (by omega) (by omega)
    simp (maxSteps := 4000000) only [go_sem, Nat.reduceAdd, reduceCtorEq, Nat.reduceEqDiff, Nat.reduceLeDiff, tk3, tk9, dz9, tk22, tk25, tz25, dz25, tk49, tz49, dz49, kCFails, aPos, aMove, aMv, hm, w1, w2, w3]
    simp only [lastP, hm, whenMay, orNone, mNone, IntKind.wrap_i64, decide_eq_false_iff_not, if_true] at *
    (repeat' split at hr) <;> cases hr <;> (repeat' (first | intro _ | apply And.intro)) <;> (first | rfl | omega | (exfalso; omega))
  · cases hm : may ls (p1, p2) n with
    | true =>
      have hi := (may_iff _ _ _).1 hm
      simp only at hi
      rw [hm] at hg
      have cz : decide (n > IntKind.i64.wrap ((ls.length : Int) - p1)) = true := by rw [wrap64 (by omega) (by omega)]; exact decide_eq_true (by simp only [true_and] at hg; omega)
      simp (maxSteps := 4000000) only [go_sem, Nat.reduceAdd, reduceCtorEq, Nat.reduceEqDiff, tk3, tk22, tk25, dz25, tk49, tz49, dz49, kCFails, aPos, aMove, aMv, hm, cz]
      simp only [lastP, hm, whenMay, orNone, mNone, IntKind.wrap_i64, decide_eq_true_eq, if_true] at *
      (repeat' split at hr) <;> cases hr <;> (repeat' (first | intro _ | apply And.intro)) <;> (first | rfl | omega | (exfalso; omega))
    | false =>
      simp (maxSteps := 4000000) only [go_sem, Nat.reduceAdd, reduceCtorEq, Nat.reduceEqDiff, tk3, tk22, tk25, dz25, tk49, tz49, dz49, kCFails, aPos, aMove, aMv, hm]
      simp only [lastP, hm, whenMay, orNone, mNone, Bool.false_eq_true, if_false] at *
      (repeat' split at hr) <;> cases hr <;> (repeat' (first | intro _ | apply And.intro)) <;> (first | rfl | omega | (exfalso; omega))
theorem ok_CLast : C1OK Tryz.prog 39 (kMvN lastP) := C1OK.by (by kernel_rfl) (fun d h => calls_CLast d.1 d.2.1 d.2.2 h.1) (fun _ => rfl) (fun _ => rfl)

/-! ### The n-th byte of a kind -/
def seekL (c : UInt8) (d : Int) : List UInt8 → Int → Int → Int
  | [], _, _ => -1
  | b :: r, i, n => if b = c then (if n = 1 then i else seekL c d r (i + d) (n - 1)) else seekL c d r (i + d) n
def seekIn (s : List UInt8) (col : Int) (back : Bool) (c : UInt8) (n : Int) : Int :=
  if back = true then seekL c (-1) (s.take col.toNat).reverse (col - 1) n else seekL c 1 (s.drop (col + 1).toNat) (col + 1) n
theorem drop_step (s : List UInt8) (k : Nat) (h : k < s.length) : s.drop k = s.getD k 0 :: s.drop (k + 1) := by
  rw [List.getD_eq_getElem?_getD, List.getElem?_eq_getElem h]
  exact List.drop_eq_getElem_cons h
theorem takeRev_step (s : List UInt8) (k : Nat) (h : k < s.length) : (s.take (k + 1)).reverse = s.getD k 0 :: (s.take k).reverse := by
  rw [List.take_succ_eq_append_getElem h, List.reverse_append, List.getD_eq_getElem?_getD, List.getElem?_eq_getElem h]
  rfl
theorem byte_ne (a b : UInt8) : ((a.toNat : Int) != (b.toNat : Int)) = !decide (a = b) := by
  rw [Bool.eq_iff_iff]
  simp only [bne_iff_ne, ne_eq, Bool.not_eq_true', decide_eq_false_iff_not]
  constructor
  · intro h e; exact h (by rw [e])
  · intro h e; exact h (UInt8.toNat_inj.1 (by omega))
theorem byte_eq (a b : UInt8) : ((a.toNat : Int) == (b.toNat : Int)) = decide (a = b) := by
  rw [Bool.eq_iff_iff]
  simp only [beq_iff_eq, decide_eq_true_eq]
  constructor
  · intro e; exact UInt8.toNat_inj.1 (by omega)
  · intro h; rw [h]
/-- What is left to be sought behind i bytes. -/
def restF (s : List UInt8) (col : Int) (back : Bool) (i : Nat) : List UInt8 := if back = true then (s.take (col.toNat - i)).reverse else s.drop (col.toNat + 1 + i)
def atF (col : Int) (back : Bool) (i : Nat) : Int := if back = true then col - 1 - i else col + 1 + i
theorem restF_nil {s : List UInt8} {col : Int} {back : Bool} {i : Nat} (h0 : 0 ≤ col) (h1 : col ≤ s.length) (h : atF col back i < 0 ∨ atF col back i ≥ s.length ∨ s.length ≤ i) : restF s col back i = [] := by
  unfold atF at h
  unfold restF
  cases back with
  | true =>
    simp only [if_true] at h ⊢
    rw [show col.toNat - i = 0 by omega]; rfl
  | false =>
    simp only [Bool.false_eq_true, if_false] at h ⊢
    exact List.drop_eq_nil_of_le (by omega)
theorem restF_cons {s : List UInt8} {col : Int} {back : Bool} {i : Nat} (h0 : 0 ≤ col) (_ : col ≤ s.length) (h2 : ¬ (atF col back i < 0)) (h3 : ¬ (atF col back i ≥ s.length)) : restF s col back i = s.getD (atF col back i).toNat 0 :: restF s col back (i + 1) := by
  unfold atF at h2 h3 ⊢
  unfold restF
  cases back with
  | true =>
    simp only [if_true] at h2 h3 ⊢
    rw [show col.toNat - i = (col - 1 - i).toNat + 1 by omega, takeRev_step _ _ (by omega), show col.toNat - (i + 1) = (col - 1 - i).toNat by omega]
  | false =>
    simp only [Bool.false_eq_true, if_false] at h2 h3 ⊢
    rw [drop_step _ _ (by omega), show (col + 1 + i).toNat = col.toNat + 1 + i by omega]
    rfl
abbrev stepF (back : Bool) : Int := if back = true then -1 else 1
theorem atF_succ (col : Int) (back : Bool) (i : Nat) : atF col back (i + 1) = atF col back i + stepF back := by
  unfold atF stepF; cases back <;> simp <;> omega

set_option maxRecDepth 20000 in
set_option maxHeartbeats 4000000 in
theorem calls_cnth (s : List UInt8) (col : Int) (back : Bool) (c : UInt8) (n : Int) (h0 : 0 ≤ col) (h1 : col ≤ s.length) (h2 : s.length ≤ 65536) (h3 : 1 ≤ n) (h4 : n ≤ 9223372036854775807) :
    CallsR Tryz.prog 77 [.str s, .int .i64 col, .bool back, byteA c, .int .i64 n] [] (.int .i64 (seekIn s col back c n)) [] := by
  refine callsR_of (mrg := true) (dyn := []) (CtrOK.nil _) mixed Tryz.func77 rfl (by simp [Tryz.ntmps77]) (by kernel_rfl) ?_
  rw [show Tryz.f77.results.toList = [.tmp 10] from by kernel_rfl]
  have e0 : seekIn s col back c n = seekL c (stepF back) (restF s col back 0) (atF col back 0) n := by
    unfold seekIn restF atF stepF
    cases back with
    | true => simp
    | false => simp only [Bool.false_eq_true, if_false]; rw [show (col + 1).toNat = col.toNat + 1 + 0 by omega]; simp
  generalize seekIn s col back c n = R at e0 ⊢
  simp (maxSteps := 4000000) only [go_sem, Nat.reduceAdd, reduceCtorEq, Nat.reduceEqDiff, tk9]
  refine loopH_intro (α := Nat × Int) (fun x => ([(0, .str s), (1, .int .i64 col), (2, .bool back), (3, byteA c), (4, .int .i64 x.2), (10, .int .i64 0), (14, .int .i64 s.length), (15, .int .i64 x.1)], []))
    (fun x => 1 ≤ x.2 ∧ x.2 ≤ n ∧ x.1 ≤ s.length ∧ seekL c (stepF back) (restF s col back x.1) (atF col back x.1) x.2 = R) (fun x => s.length - x.1) (0, n) ⟨h3, by omega, by omega, e0.symm⟩ ?_ ?_
  · simp (maxSteps := 4000000) only [go_sem, reduceCtorEq, Nat.reduceEqDiff]
    all_goals rfl
  rintro ⟨i, m⟩ ⟨hm1, hm2, hi, hR⟩
  simp only at hm1 hm2 hi hR
  by_cases hlt : i < s.length
  · have c1 : decide ((i : Int) < (s.length : Int)) = true := decide_eq_true (by omega)
    have w1 : IntKind.i64.wrap (IntKind.i64.wrap (col + 1) + i) = col + 1 + i := by rw [wrap64 (n := col + 1) (by omega) (by omega), wrap64 (by omega) (by omega)]
    have w2 : IntKind.i64.wrap (IntKind.i64.wrap (col - 1) - i) = col - 1 - i := by rw [wrap64 (n := col - 1) (by omega) (by omega), wrap64 (by omega) (by omega)]
    have w3 : IntKind.i64.wrap ((i : Int) + 1) = ((i + 1 : Nat) : Int) := by rw [wrap64 (by omega) (by omega)]; rfl
    have hat : atF col back i = if back = true then col - 1 - i else col + 1 + i := rfl
    by_cases ho : atF col back i < 0 ∨ atF col back i ≥ s.length
    · have hnil := restF_nil h0 h1 (ho.elim .inl fun h => .inr (.inl h))
      rw [hnil] at hR
      simp only [seekL] at hR
      subst hR
      cases back with
      | true =>
        simp only [if_true] at hat
        rw [hat] at ho
        have c2 : decide (col - 1 - (i : Int) < 0) = true := decide_eq_true (by omega)
        simp (maxSteps := 4000000) only [go_sem, reduceCtorEq, Nat.reduceEqDiff, tk9, c1, w1, w2, w3, c2]
      | false =>
        simp only [Bool.false_eq_true, if_false] at hat
        rw [hat] at ho
        have c2 : decide (col + 1 + (i : Int) < 0) = false := decide_eq_false (by omega)
        have c3 : decide (col + 1 + (i : Int) ≥ (s.length : Int)) = true := decide_eq_true (by omega)
        simp (maxSteps := 4000000) only [go_sem, reduceCtorEq, Nat.reduceEqDiff, tk9, c1, w1, w3, c2, c3]
    · have ho1 : ¬ atF col back i < 0 := fun h => ho (.inl h)
      have ho2 : ¬ atF col back i ≥ s.length := fun h => ho (.inr h)
      rw [restF_cons h0 h1 ho1 ho2] at hR
      simp only [seekL, ← atF_succ] at hR
      have w4 : IntKind.i64.wrap (m - 1) = m - 1 := wrap64 (by omega) (by omega)
      have fin : ∀ m', 1 ≤ m' → m' ≤ n → seekL c (stepF back) (restF s col back (i + 1)) (atF col back (i + 1)) m' = R → ∃ y : Nat × Int, (1 ≤ y.2 ∧ y.2 ≤ n ∧ y.1 ≤ s.length ∧ seekL c (stepF back) (restF s col back y.1) (atF col back y.1) y.2 = R) ∧ s.length - y.1 < s.length - i ∧ (m' = y.2 ∧ ((i + 1 : Nat) : Int) = y.1) := 
        fun m' g1 g2 g3 => ⟨(i + 1, m'), ⟨g1, g2, by show i + 1 ≤ s.length; omega, g3⟩, by show s.length - (i + 1) < s.length - i; omega, rfl, rfl⟩
      by_cases hb : s.getD (atF col back i).toNat 0 = c
      · rw [if_pos hb] at hR
        have hb' : ((((s.getD (atF col back i).toNat 0).toNat : Int)) != (c.toNat : Int)) = false := by rw [byte_ne, hb]; simp
        by_cases hm : m = 1
        · rw [if_pos hm] at hR
          have c5 : (m - 1 == 0) = true := by rw [hm]; rfl
          cases back with
          | true =>
            simp only [if_true] at hat
            rw [hat] at ho1 ho2 hb' hR
            have c2 : decide (col - 1 - (i : Int) < 0) = false := decide_eq_false ho1
            have c3 : decide (col - 1 - (i : Int) ≥ (s.length : Int)) = false := decide_eq_false ho2
            simp (maxSteps := 4000000) only [go_sem, reduceCtorEq, Nat.reduceEqDiff, tk9, c1, w1, w2, c2, c3, hb', w4, c5]
            exact ⟨⟨by omega, by omega⟩, hR⟩
          | false =>
            simp only [Bool.false_eq_true, if_false] at hat
            rw [hat] at ho1 ho2 hb' hR
            have c2 : decide (col + 1 + (i : Int) < 0) = false := decide_eq_false ho1
            have c3 : decide (col + 1 + (i : Int) ≥ (s.length : Int)) = false := decide_eq_false ho2
            simp (maxSteps := 4000000) only [go_sem, reduceCtorEq, Nat.reduceEqDiff, tk9, c1, w1, c2, c3, hb', w4, c5]
            exact ⟨⟨by omega, by omega⟩, hR⟩
        · rw [if_neg hm] at hR
          have c5 : (m - 1 == 0) = false := beq_eq_false_iff_ne.2 (by omega)
          have hfin := fin (m - 1) (by omega) (by omega) hR
          cases back with
          | true =>
            simp only [if_true] at hat
            rw [hat] at ho1 ho2 hb'
            have c2 : decide (col - 1 - (i : Int) < 0) = false := decide_eq_false ho1
            have c3 : decide (col - 1 - (i : Int) ≥ (s.length : Int)) = false := decide_eq_false ho2
            simp (maxSteps := 4000000) only [go_sem, reduceCtorEq, Nat.reduceEqDiff, tk9, c1, w1, w2, w3, c2, c3, hb', w4, c5]
            exact ⟨⟨by omega, by omega⟩, hfin⟩
          | false =>
            simp only [Bool.false_eq_true, if_false] at hat
            rw [hat] at ho1 ho2 hb'
            have c2 : decide (col + 1 + (i : Int) < 0) = false := decide_eq_false ho1
            have c3 : decide (col + 1 + (i : Int) ≥ (s.length : Int)) = false := decide_eq_false ho2
            simp (maxSteps := 4000000) only [go_sem, reduceCtorEq, Nat.reduceEqDiff, tk9, c1, w1, w3, c2, c3, hb', w4, c5]
            exact ⟨⟨by omega, by omega⟩, hfin⟩
      · rw [if_neg hb] at hR
        have hb' : ((((s.getD (atF col back i).toNat 0).toNat : Int)) != (c.toNat : Int)) = true := by rw [byte_ne, decide_eq_false hb]; rfl
        have hfin := fin m hm1 hm2 hR
        cases back with
        | true =>
          simp only [if_true] at hat
          rw [hat] at ho1 ho2 hb'
          have c2 : decide (col - 1 - (i : Int) < 0) = false := decide_eq_false ho1
          have c3 : decide (col - 1 - (i : Int) ≥ (s.length : Int)) = false := decide_eq_false ho2
          simp (maxSteps := 4000000) only [go_sem, reduceCtorEq, Nat.reduceEqDiff, tk9, c1, w1, w2, w3, c2, c3, hb']
          exact ⟨⟨by omega, by omega⟩, hfin⟩
        | false =>
          simp only [Bool.false_eq_true, if_false] at hat
          rw [hat] at ho1 ho2 hb'
          have c2 : decide (col + 1 + (i : Int) < 0) = false := decide_eq_false ho1
          have c3 : decide (col + 1 + (i : Int) ≥ (s.length : Int)) = false := decide_eq_false ho2
          simp (maxSteps := 4000000) only [go_sem, reduceCtorEq, Nat.reduceEqDiff, tk9, c1, w1, w3, c2, c3, hb']
          exact ⟨⟨by omega, by omega⟩, hfin⟩
  · have c1 : decide ((i : Int) < (s.length : Int)) = false := decide_eq_false (by omega)
    have hnil := restF_nil (s := s) (col := col) (back := back) (i := i) h0 h1 (.inr (.inr (by omega)))
    rw [hnil] at hR
    simp only [seekL] at hR
    subst hR
    simp (maxSteps := 4000000) only [go_sem, reduceCtorEq, Nat.reduceEqDiff, c1]

theorem seekL_range (c : UInt8) (d : Int) (hd : d = 1 ∨ d = -1) (lo hi : Int) : ∀ (l : List UInt8) (i n : Int), (∀ k : Nat, k < l.length → lo ≤ i + d * k ∧ i + d * k ≤ hi) → seekL c d l i n = -1 ∨ (lo ≤ seekL c d l i n ∧ seekL c d l i n ≤ hi)
  | [], _, _, _ => .inl rfl
  | b :: r, i, n, h => by
    have h0 := h 0 (by simp)
    have ht : ∀ k : Nat, k < r.length → lo ≤ i + d + d * k ∧ i + d + d * k ≤ hi := fun k hk => by
      have := h (k + 1) (by simp; omega)
      rcases hd with rfl | rfl <;> omega
    unfold seekL
    split
    · split
      · right; rcases hd with rfl | rfl <;> omega
      · exact seekL_range c d hd lo hi r _ _ ht
    · exact seekL_range c d hd lo hi r _ _ ht
theorem seekIn_range (s : List UInt8) (col : Int) (back : Bool) (c : UInt8) (n : Int) (h0 : 0 ≤ col) (h1 : col ≤ s.length) : seekIn s col back c n = -1 ∨ (0 ≤ seekIn s col back c n ∧ seekIn s col back c n < s.length) := by
  unfold seekIn
  split
  · have := seekL_range c (-1) (.inr rfl) 0 (s.length - 1) (s.take col.toNat).reverse (col - 1) n (fun k hk => by simp at hk; omega)
    omega
  · have := seekL_range c 1 (.inl rfl) 0 (s.length - 1) (s.drop (col + 1).toNat) (col + 1) n (fun k hk => by simp at hk; omega)
    omega
def kCNth : C1 := C1.by [.id, .id, .id, .id, .id] (lCons cStr (lCons (cInt .i64) (lCons cBool (lCons cByte (lOne (cInt .i64)))))) (fun d => 0 ≤ d.2.1 ∧ d.2.1 ≤ d.1.length ∧ d.1.length ≤ 65536 ∧ 1 ≤ d.2.2.2.2 ∧ d.2.2.2.2 ≤ 9223372036854775807)
  (fun d => .int .i64 (seekIn d.1 d.2.1 d.2.2.1 d.2.2.2.1 d.2.2.2.2)) (fun _ => [])
theorem ok_cnth : C1OK Tryz.prog 77 kCNth := C1OK.by (by kernel_rfl) (fun d h => calls_cnth d.1 d.2.1 d.2.2.1 d.2.2.2.1 d.2.2.2.2 h.1 h.2.1 h.2.2.1 h.2.2.2.1 h.2.2.2.2) (fun _ => rfl) (fun _ => rfl)

/-- Where a seeking key leads. -/
def seekTo (p : Int × Int) (way b at_ : Int) : Mv × Bool := if at_ < 0 then mNone else (((p.1, at_ + b), way, false, -1), true)
def seekP (ls : Ls) (p : Int × Int) (key c : UInt8) (n : Int) : Mv × Bool :=
  whenMay ls p n (
    if key = 102 then seekTo p 1 0 (seekIn (ls.getD p.1.toNat []) p.2 false c n)
    else if key = 116 then seekTo p 1 (-1) (seekIn (ls.getD p.1.toNat []) p.2 false c n)
    else if key = 70 then seekTo p 0 0 (seekIn (ls.getD p.1.toNat []) p.2 true c n)
    else if key = 84 then seekTo p 0 1 (seekIn (ls.getD p.1.toNat []) p.2 true c n)
    else mNone)
theorem byte_lit (b : UInt8) (k : Int) (c : UInt8) (hc : (c.toNat : Int) = k) (h : ¬ b = c) : ((b.toNat : Int) == k) = false := by
  rw [← hc, byte_eq, decide_eq_false h]

set_option maxRecDepth 20000 in
set_option maxHeartbeats 8000000 in
theorem calls_Seek (ls : Ls) (p : Int × Int) (key c : UInt8) (n : Int) (hf : okText ls) (h4 : n ≤ 9223372036854775807) : CallsR Tryz.prog 41 [.sl 1 (ls.map .str), aPos p, byteA key, byteA c, .int .i64 n] [] (aMove (seekP ls p key c n)) [] := by
  refine callsR_of (mrg := true) (dyn := []) (CtrOK.cons ok_cfails (CtrOK.cons ok_cto (CtrOK.cons ok_cnth (CtrOK.nil _)))) mixed Tryz.func41 rfl (by simp [Tryz.ntmps41]) (by kernel_rfl) ?_
  rw [show Tryz.f41.results.toList = [.cell 10 49, .tmp 11] from by kernel_rfl]
  obtain ⟨p1, p2⟩ := p
  have h6 := fits_getD hf p1.toNat
  have h8 := hf.1
  unfold seekP whenMay
  cases hm : may ls (p1, p2) n with
  | false =>
    rw [if_neg (by simp)]
    simp (maxSteps := 4000000) only [go_sem, Nat.reduceAdd, reduceCtorEq, Nat.reduceEqDiff, tk25, dz25, tk49, tz49, dz49, kCFails, kCTo, kCNth, aPos, aMove, aMv, mNone, hm]
  | true =>
    rw [if_pos rfl]
    have hi := (may_iff _ _ _).1 hm
    simp only at hi
    have rF := seekIn_range (ls.getD p1.toNat []) p2 false c n hi.2.2.2.1 hi.2.2.2.2
    have rT := seekIn_range (ls.getD p1.toNat []) p2 true c n hi.2.2.2.1 hi.2.2.2.2
    obtain ⟨xF, hxF⟩ : ∃ x, x = seekIn (ls.getD p1.toNat []) p2 false c n := ⟨_, rfl⟩
    obtain ⟨xT, hxT⟩ : ∃ x, x = seekIn (ls.getD p1.toNat []) p2 true c n := ⟨_, rfl⟩
    rw [← hxF] at rF
    rw [← hxT] at rT
    simp only [← hxF, ← hxT]
    by_cases hk102 : key = 102
    · subst hk102
      rw [if_pos rfl, seekTo]
      by_cases hx : xF < 0
      · have c1 : decide (xF < 0) = true := decide_eq_true hx
        rw [if_pos hx]
        simp (maxSteps := 4000000) only [go_sem, Nat.reduceAdd, reduceCtorEq, Nat.reduceEqDiff, tk3, tk9, dz9, tk22, tk25, dz25, tk49, tz49, dz49, kCFails, kCTo, kCNth, aPos, aMove, aMv, mNone, hm, ←hxF, c1, byteA, UInt8.reduceToNat]
        omega
      · have c1 : decide (xF < 0) = false := decide_eq_false hx
        have w1 : IntKind.i64.wrap (xF + 0) = xF + 0 := wrap64 (by omega) (by omega)
        rw [if_neg hx]
        simp (maxSteps := 4000000) only [go_sem, Nat.reduceAdd, reduceCtorEq, Nat.reduceEqDiff, Nat.reduceLeDiff, tk3, tk9, dz9, tk22, tk25, dz25, tk49, tz49, dz49, kCFails, kCTo, kCNth, aPos, aMove, aMv, toC, mTo, hm, ←hxF, c1, w1, byteA, UInt8.reduceToNat]
        omega
    by_cases hk116 : key = 116
    · subst hk116
      rw [if_neg (by decide), if_pos rfl, seekTo]
      by_cases hx : xF < 0
      · have c1 : decide (xF < 0) = true := decide_eq_true hx
        rw [if_pos hx]
        simp (maxSteps := 4000000) only [go_sem, Nat.reduceAdd, reduceCtorEq, Nat.reduceEqDiff, Int.reduceBEq, tk3, tk9, dz9, tk22, tk25, dz25, tk49, tz49, dz49, kCFails, kCTo, kCNth, aPos, aMove, aMv, mNone, hm, ←hxF, c1, byteA, UInt8.reduceToNat]
        omega
      · have c1 : decide (xF < 0) = false := decide_eq_false hx
        have w1 : IntKind.i64.wrap (xF + -1) = xF + -1 := wrap64 (by omega) (by omega)
        rw [if_neg hx]
        simp (maxSteps := 4000000) only [go_sem, Nat.reduceAdd, reduceCtorEq, Nat.reduceEqDiff, Int.reduceBEq, Nat.reduceLeDiff, tk3, tk9, dz9, tk22, tk25, dz25, tk49, tz49, dz49, kCFails, kCTo, kCNth, aPos, aMove, aMv, toC, mTo, hm, ←hxF, c1, w1, byteA, UInt8.reduceToNat]
        omega
    by_cases hk70 : key = 70
    · subst hk70
      rw [if_neg (by decide), if_neg (by decide), if_pos rfl, seekTo]
      by_cases hx : xT < 0
      · have c1 : decide (xT < 0) = true := decide_eq_true hx
        rw [if_pos hx]
        simp (maxSteps := 4000000) only [go_sem, Nat.reduceAdd, reduceCtorEq, Nat.reduceEqDiff, Int.reduceBEq, tk3, tk9, dz9, tk22, tk25, dz25, tk49, tz49, dz49, kCFails, kCTo, kCNth, aPos, aMove, aMv, mNone, hm, ←hxT, c1, byteA, UInt8.reduceToNat]
        omega
      · have c1 : decide (xT < 0) = false := decide_eq_false hx
        have w1 : IntKind.i64.wrap (xT + 0) = xT + 0 := wrap64 (by omega) (by omega)
        rw [if_neg hx]
        simp (maxSteps := 4000000) only [go_sem, Nat.reduceAdd, reduceCtorEq, Nat.reduceEqDiff, Int.reduceBEq, tk3, tk9, dz9, tk22, tk25, dz25, tk49, tz49, dz49, kCFails, kCTo, kCNth, aPos, aMove, aMv, toC, mTo, hm, ←hxT, c1, w1, byteA, UInt8.reduceToNat]
        omega
    by_cases hk84 : key = 84
    · subst hk84
      rw [if_neg (by decide), if_neg (by decide), if_neg (by decide), if_pos rfl, seekTo]
      by_cases hx : xT < 0
      · have c1 : decide (xT < 0) = true := decide_eq_true hx
        rw [if_pos hx]
        simp (maxSteps := 4000000) only [go_sem, Nat.reduceAdd, reduceCtorEq, Nat.reduceEqDiff, Int.reduceBEq, tk3, tk9, dz9, tk22, tk25, dz25, tk49, tz49, dz49, kCFails, kCTo, kCNth, aPos, aMove, aMv, mNone, hm, ←hxT, c1, byteA, UInt8.reduceToNat]
        omega
      · have c1 : decide (xT < 0) = false := decide_eq_false hx
        have w1 : IntKind.i64.wrap (xT + 1) = xT + 1 := wrap64 (by omega) (by omega)
        rw [if_neg hx]
        simp (maxSteps := 4000000) only [go_sem, Nat.reduceAdd, reduceCtorEq, Nat.reduceEqDiff, Int.reduceBEq, tk3, tk9, dz9, tk22, tk25, dz25, tk49, tz49, dz49, kCFails, kCTo, kCNth, aPos, aMove, aMv, toC, mTo, hm, ←hxT, c1, w1, byteA, UInt8.reduceToNat]
        omega
    have e1 := byte_lit key 102 102 rfl hk102
    have e2 := byte_lit key 116 116 rfl hk116
    have e3 := byte_lit key 70 70 rfl hk70
    have e4 := byte_lit key 84 84 rfl hk84
    rw [if_neg hk102, if_neg hk116, if_neg hk70, if_neg hk84]
    simp (maxSteps := 4000000) only [go_sem, Nat.reduceAdd, reduceCtorEq, Nat.reduceEqDiff, tk25, dz25, tk49, tz49, dz49, kCFails, kCTo, kCNth, aPos, aMove, aMv, mNone, hm, e1, e2, e3, e4]
def kSeek : C1 := C1.by [.sl 1 [], .id, .id, .id, .id] (lCons cStrs (lCons cPos2 (lCons cByte (lCons cByte (lOne (cInt .i64)))))) (fun d => okText d.1 ∧ d.2.2.2.2 ≤ 9223372036854775807) (fun d => aMove (seekP d.1 d.2.1 d.2.2.1 d.2.2.2.1 d.2.2.2.2)) (fun _ => [])
theorem ok_Seek : C1OK Tryz.prog 41 kSeek := C1OK.by (by kernel_rfl) (fun d h => calls_Seek d.1 d.2.1 d.2.2.1 d.2.2.2.1 d.2.2.2.2 h.1 h.2) (fun _ => rfl) (fun _ => rfl)
end Go.Pg
