/- Motions by paragraphs: the program's. Where sentences begin: the parts. -/
import Derived.Test.YtkkcfkggfpoagaaGreatPgBs
import Derived.Test.YtkkcfkggfpoagaaGreatPgFx5
import Derived.Test.YtkkcfkggfpoagaaGreatPgFx1
set_option linter.unusedVariables false
set_option linter.unusedSimpArgs false
namespace Go.Pg
open Go Go.Proofs

/-- The first number from i on that fits. -/
def findUp (g : Nat → Bool) : Nat → Nat → Option Nat
  | 0, _ => none
  | k + 1, i => if g i = true then some i else findUp g k (i + 1)
/-- The last number below. -/
def findDn (g : Nat → Bool) : Nat → Option Nat
  | 0 => none
  | k + 1 => if g k = true then some k else findDn g k
theorem findUp_some {g : Nat → Bool} : ∀ {k i j : Nat}, findUp g k i = some j → i ≤ j ∧ j < i + k ∧ g j = true
  | 0, _, _, h => by cases h
  | k + 1, i, j, h => by
    unfold findUp at h
    split at h
    · next hg => cases h; exact ⟨by omega, by omega, hg⟩
    · have := findUp_some h; exact ⟨by omega, by omega, this.2.2⟩
theorem findDn_some {g : Nat → Bool} : ∀ {k j : Nat}, findDn g k = some j → j < k ∧ g j = true
  | 0, _, h => by cases h
  | k + 1, j, h => by
    unfold findDn at h
    split at h
    · next hg => cases h; exact ⟨by omega, hg⟩
    · have := findDn_some h; exact ⟨by omega, this.2⟩
def parEnd (ls : Ls) (i : Nat) : Bool := ls.getD i [] == [] && !(ls.getD (i - 1) [] == [])
def parBeg (ls : Ls) (i : Nat) : Bool := ls.getD i [] == [] && !(ls.getD (i + 1) [] == [])
def lastPos (ls : Ls) (op : Bool) : Int × Int := ((ls.length : Int) - 1, if op = true then ((ls.getD (ls.length - 1) []).length : Int) else max (((ls.getD (ls.length - 1) []).length : Int) - 1) 0)
def nextPar (ls : Ls) (l : Int) (op : Bool) : Int × Int := match findUp (parEnd ls) (ls.length - (l.toNat + 1)) (l.toNat + 1) with
  | some i => (i, 0)
  | none => lastPos ls op
def backPar (ls : Ls) (l : Int) : Int × Int := match findDn (parBeg ls) l.toNat with
  | some i => (i, 0)
  | none => (0, 0)
set_option maxRecDepth 20000 in
set_option maxHeartbeats 4000000 in
theorem calls_pnext (ls : Ls) (p : Int × Int) (op : Bool) (hf : okText ls) (h0 : 0 ≤ p.1) (h1 : p.1 < ls.length) :
    CallsR Tryz.prog 139 [.sl 1 (ls.map .str), aPos p, .bool op] [] (aPos (nextPar ls p.1 op)) [] := by
  refine callsR_of (mrg := true) (dyn := []) (CtrOK.nil _) mixed Tryz.func139 rfl (by simp [Tryz.ntmps139]) (by kernel_rfl) ?_
  rw [show Tryz.f139.results.toList = [.cell 6 25] from by kernel_rfl]
  obtain ⟨p1, p2⟩ := p
  dsimp only at h0 h1 ⊢
  obtain ⟨l, rfl⟩ := Int.eq_ofNat_of_zero_le h0
  have h8 := hf.1
  have w0 : IntKind.i64.wrap ((l : Int) + 1) = ((l + 1 : Nat) : Int) := by rw [wrap64 (by omega) (by omega)]; rfl
  have hR : nextPar ls (l : Int) op = match findUp (parEnd ls) (ls.length - (l + 1)) (l + 1) with
    | some i => (i, 0)
    | none => lastPos ls op := rfl
  generalize nextPar ls (l : Int) op = R at hR ⊢
  simp (maxSteps := 4000000) only [go_sem, Nat.reduceAdd, reduceCtorEq, Nat.reduceEqDiff, tk3, tk25, tz25, dz25, aPos, w0]
  refine loopH_intro (α := Nat) (fun i => ([(0, .sl 1 (ls.map .str)), (2, .bool op), (4, .ptr 0 2 1 0 0), (6, .ptr 1 2 1 0 0), (7, .int .i64 i)], [.arr 25 2 [.agg [.int .i64 l, .int .i64 p2]], .arr 25 2 [.agg [.int .i64 0, .int .i64 0]]]))
    (fun i => l + 1 ≤ i ∧ i ≤ ls.length ∧ R = match findUp (parEnd ls) (ls.length - i) i with
      | some i => (i, 0)
      | none => lastPos ls op) (fun i => ls.length - i) (l + 1) ⟨by omega, by omega, hR⟩ ?_ ?_
  · simp (maxSteps := 4000000) only [go_sem, reduceCtorEq, Nat.reduceEqDiff]
    exact ⟨by decide, subX_eq rfl rfl, subX_eq rfl rfl⟩
  rintro i ⟨hi1, hi2, hR⟩
  by_cases hlt : i < ls.length
  · have c1 : decide ((i : Int) < (ls.length : Int)) = true := decide_eq_true (by omega)
    have w1 : IntKind.i64.wrap ((i : Int) - 1) = ((i - 1 : Nat) : Int) := by rw [wrap64 (by omega) (by omega)]; omega
    have w2 : IntKind.i64.wrap ((i : Int) + 1) = ((i + 1 : Nat) : Int) := by rw [wrap64 (by omega) (by omega)]; rfl
    rw [show ls.length - i = (ls.length - (i + 1)) + 1 by omega, findUp] at hR
    cases hg : parEnd ls i with
    | true =>
      rw [if_pos hg] at hR
      subst hR
      have hg' := hg
      unfold parEnd at hg'
      simp (maxSteps := 4000000) only [go_sem, Nat.reduceAdd, reduceCtorEq, Nat.reduceEqDiff, Nat.reduceLeDiff, tk9, dz9, tk22, tk25, tz25, dz25, aPos, c1, w1, hg']
      exact ⟨⟨by omega, by omega⟩, fun h => ⟨h, by omega, by omega⟩⟩
    | false =>
      rw [if_neg (by rw [hg]; simp)] at hR
      have hg' := hg
      unfold parEnd at hg'
      simp (maxSteps := 4000000) only [go_sem, reduceCtorEq, Nat.reduceEqDiff, tk9, dz9, tk22, c1, w1, w2, hg']
      exact ⟨⟨by omega, by omega⟩, fun h => ⟨h, by omega, by omega⟩, i + 1, ⟨by omega, by omega, hR⟩, by omega, by decide, ⟨subX_eq rfl rfl, subX_eq rfl rfl⟩, rfl⟩
  · have c1 : decide ((i : Int) < (ls.length : Int)) = false := decide_eq_false (by omega)
    rw [show ls.length - i = 0 by omega, findUp] at hR
    subst hR
    have h6 := fits_getD hf (ls.length - 1)
    have w1 : IntKind.i64.wrap ((ls.length : Int) - 1) = (ls.length : Int) - 1 := wrap64 (by omega) (by omega)
    have e1 : ((ls.length : Int) - 1).toNat = ls.length - 1 := by omega
    have w2 : IntKind.i64.wrap (((ls.getD (ls.length - 1) []).length : Int) - 1) = ((ls.getD (ls.length - 1) []).length : Int) - 1 := wrap64 (by omega) (by omega)
    cases op with
    | true =>
      simp (maxSteps := 4000000) only [go_sem, Nat.reduceAdd, reduceCtorEq, Nat.reduceEqDiff, Nat.reduceLeDiff, tk9, dz9, tk22, tk25, tz25, dz25, aPos, lastPos, c1, w1, e1]
      exact ⟨by omega, by omega⟩
    | false =>
      simp (maxSteps := 4000000) only [go_sem, Nat.reduceAdd, reduceCtorEq, Nat.reduceEqDiff, Nat.reduceLeDiff, tk3, tk9, dz9, tk22, tk25, tz25, dz25, aPos, lastPos, c1, w1, e1, w2]
      exact ⟨by omega, by omega⟩
def kPNext : C1 := C1.by [.sl 1 [], .id, .id] (lCons cStrs (lCons cPos2 (lOne cBool))) (fun d => okText d.1 ∧ 0 ≤ d.2.1.1 ∧ d.2.1.1 < d.1.length) (fun d => aPos (nextPar d.1 d.2.1.1 d.2.2)) (fun _ => [])
theorem ok_pnext : C1OK Tryz.prog 139 kPNext := C1OK.by (by kernel_rfl) (fun d h => calls_pnext d.1 d.2.1 d.2.2 h.1 h.2.1 h.2.2) (fun _ => rfl) (fun _ => rfl)

set_option maxRecDepth 20000 in
set_option maxHeartbeats 4000000 in
theorem calls_pback (ls : Ls) (p : Int × Int) (hf : okText ls) (h0 : 0 ≤ p.1) (h1 : p.1 < ls.length) :
    CallsR Tryz.prog 137 [.sl 1 (ls.map .str), aPos p] [] (aPos (backPar ls p.1)) [] := by
  refine callsR_of (mrg := true) (dyn := []) (CtrOK.nil _) mixed Tryz.func137 rfl (by simp [Tryz.ntmps137]) (by kernel_rfl) ?_
  rw [show Tryz.f137.results.toList = [.cell 4 25] from by kernel_rfl]
  obtain ⟨p1, p2⟩ := p
  dsimp only at h0 h1 ⊢
  obtain ⟨l, rfl⟩ := Int.eq_ofNat_of_zero_le h0
  have h8 := hf.1
  have w0 : IntKind.i64.wrap ((l : Int) - 1) = (l : Int) - 1 := wrap64 (by omega) (by omega)
  have hR : backPar ls (l : Int) = match findDn (parBeg ls) l with
    | some i => (i, 0)
    | none => (0, 0) := rfl
  generalize backPar ls (l : Int) = R at hR ⊢
  simp (maxSteps := 4000000) only [go_sem, Nat.reduceAdd, reduceCtorEq, Nat.reduceEqDiff, tk3, tk25, tz25, dz25, aPos, w0]
  refine loopH_intro (α := Nat) (fun i => ([(0, .sl 1 (ls.map .str)), (3, .ptr 0 2 1 0 0), (4, .ptr 1 2 1 0 0), (5, .int .i64 ((i : Int) - 1))], [.arr 25 2 [.agg [.int .i64 l, .int .i64 p2]], .arr 25 2 [.agg [.int .i64 0, .int .i64 0]]]))
    (fun i => i ≤ l ∧ R = match findDn (parBeg ls) i with
      | some i => (i, 0)
      | none => (0, 0)) (fun i => i) l ⟨by omega, hR⟩ ?_ ?_
  · simp (maxSteps := 4000000) only [go_sem, reduceCtorEq, Nat.reduceEqDiff]
    exact ⟨by decide, subX_eq rfl rfl, subX_eq rfl rfl⟩
  rintro i ⟨hi, hR⟩
  cases i with
  | succ i =>
    have e0 : (((i + 1 : Nat) : Int) - 1) = (i : Int) := by omega
    have c1 : decide ((i : Int) ≥ 0) = true := decide_eq_true (by omega)
    have w1 : IntKind.i64.wrap ((i : Int) + 1) = ((i + 1 : Nat) : Int) := by rw [wrap64 (by omega) (by omega)]; rfl
    have w2 : IntKind.i64.wrap ((i : Int) - 1) = (i : Int) - 1 := wrap64 (by omega) (by omega)
    rw [findDn] at hR
    cases hg : parBeg ls i with
    | true =>
      rw [if_pos hg] at hR
      subst hR
      have hg' := hg
      unfold parBeg at hg'
      simp (maxSteps := 4000000) only [go_sem, Nat.reduceAdd, reduceCtorEq, Nat.reduceEqDiff, Nat.reduceLeDiff, tk9, dz9, tk22, tk25, tz25, dz25, aPos, e0, c1, w1, hg']
      exact ⟨⟨by omega, by omega⟩, fun h => ⟨h, by omega, by omega⟩⟩
    | false =>
      rw [if_neg (by rw [hg]; simp)] at hR
      have hg' := hg
      unfold parBeg at hg'
      simp (maxSteps := 4000000) only [go_sem, reduceCtorEq, Nat.reduceEqDiff, tk9, dz9, tk22, e0, c1, w1, w2, hg']
      exact ⟨⟨by omega, by omega⟩, fun h => ⟨h, by omega, by omega⟩, i, ⟨by omega, hR⟩, by omega, by decide, ⟨subX_eq rfl rfl, subX_eq rfl rfl⟩, rfl⟩
  | zero =>
    rw [findDn] at hR
    subst hR
    simp (maxSteps := 4000000) only [go_sem, Nat.reduceAdd, reduceCtorEq, Nat.reduceEqDiff, Nat.reduceLeDiff, tk9, dz9, tk22, tk25, tz25, dz25, aPos]
    exact fun h => absurd h (by decide)
def kPBack : C1 := C1.by [.sl 1 [], .id] (lCons cStrs (lOne cPos2)) (fun d => okText d.1 ∧ 0 ≤ d.2.1 ∧ d.2.1 < d.1.length) (fun d => aPos (backPar d.1 d.2.1)) (fun _ => [])
theorem ok_pback : C1OK Tryz.prog 137 kPBack := C1OK.by (by kernel_rfl) (fun d h => calls_pback d.1 d.2 h.1 h.2.1 h.2.2) (fun _ => rfl) (fun _ => rfl)

theorem nextPar_in {ls : Ls} {l : Int} {op : Bool} (h0 : 0 < ls.length) : 0 ≤ (nextPar ls l op).1 ∧ (nextPar ls l op).1 < ls.length := by
  unfold nextPar
  split
  · next i hi => have := findUp_some hi; dsimp only; omega
  · unfold lastPos; dsimp only; omega
theorem backPar_in {ls : Ls} {l : Int} (h1 : l < ls.length) (h0 : 0 ≤ l) : 0 ≤ (backPar ls l).1 ∧ (backPar ls l).1 < ls.length := by
  unfold backPar
  split
  · next i hi => have := findDn_some hi; dsimp only; omega
  · dsimp only; omega
/-- So many steps, each of them forth. -/
def goes (step : Int × Int → Int × Int) (good : Int × Int → Int × Int → Bool) : Nat → Int × Int → Option (Int × Int)
  | 0, p => some p
  | k + 1, p => if good p (step p) = true then goes step good k (step p) else none
def jumpM (p : Int × Int) : Mv := (p, 0, true, -1)
def jumpO (r : Option (Int × Int)) : Mv × Bool := match r with
  | some q => (jumpM q, true)
  | none => mNone
def parNextP (ls : Ls) (p : Int × Int) (n : Int) (op : Bool) : Mv × Bool := whenMay ls p n (jumpO (goes (fun q => nextPar ls q.1 op) less n.toNat p))
def parBackP (ls : Ls) (p : Int × Int) (n : Int) : Mv × Bool := whenMay ls p n (jumpO (goes (fun q => backPar ls q.1) (fun a b => less b a) n.toNat p))

theorem calls_pfails (ls : Ls) (p : Int × Int) (n : Int) : CallsR Tryz.prog 136 [.sl 1 (ls.map .str), aPos p, .int .i64 n] [] (.bool (!may ls p n)) [] := by
  refine callsR_of (mrg := true) (dyn := []) (CtrOK.cons ok_CPlace (CtrOK.nil _)) mixed Tryz.func136 rfl (by simp [Tryz.ntmps136]) (by kernel_rfl) ?_
  rw [show Tryz.f136.results.toList = [.tmp 6] from by kernel_rfl]
  simp (maxSteps := 4000000) only [go_sem, Nat.reduceAdd, reduceCtorEq, Nat.reduceEqDiff, tk25, dz25, kRPlace, aPos]
  rw [Bool.eq_iff_iff]
  simp only [may, Bool.or_eq_true, decide_eq_true_eq, Bool.not_eq_true', Bool.and_eq_false_iff, decide_eq_false_iff_not]
  constructor
  · rintro (h | h)
    · right; omega
    · left; exact h
  · rintro (h | h)
    · right; exact h
    · left; omega
theorem ok_pfails : C1OK Tryz.prog 136 kCFails := C1OK.by (by kernel_rfl) (fun d _ => calls_pfails d.1 d.2.1 d.2.2) (fun _ => rfl) (fun _ => rfl)
theorem calls_pjump (p : Int × Int) : CallsR Tryz.prog 138 [aPos p] [] (aMv (jumpM p)) [] := by
  refine callsR_of (mrg := true) (dyn := []) (CtrOK.nil _) mixed Tryz.func138 rfl (by simp [Tryz.ntmps138]) (by kernel_rfl) ?_
  rw [show Tryz.f138.results.toList = [.cell 2 49] from by kernel_rfl]
  simp (maxSteps := 4000000) only [go_sem, Nat.reduceAdd, reduceCtorEq, Nat.reduceEqDiff, Nat.reduceLeDiff, tk25, dz25, tk49, tz49, dz49, aPos, aMv, jumpM]
def kPJump : C1 := C1.by [.id] (lOne cPos2) (fun _ => True) (fun d => aMv (jumpM d)) (fun _ => [])
theorem ok_pjump : C1OK Tryz.prog 138 kPJump := C1OK.by (by kernel_rfl) (fun d _ => calls_pjump d) (fun _ => rfl) (fun _ => rfl)

set_option maxRecDepth 20000 in
set_option maxHeartbeats 4000000 in
theorem calls_ParNext (ls : Ls) (p : Int × Int) (n : Int) (op : Bool) (hf : okText ls) (hn : n ≤ 9223372036854775807) :
    CallsR Tryz.prog 129 [.sl 1 (ls.map .str), aPos p, .int .i64 n, .bool op] [] (aMove (parNextP ls p n op)) [] := by
  refine callsR_of (mrg := true) (dyn := []) (CtrOK.cons ok_pfails (CtrOK.cons ok_pnext (CtrOK.cons ok_Less (CtrOK.cons ok_pjump (CtrOK.nil _))))) mixed Tryz.func129 rfl (by simp [Tryz.ntmps129]) (by kernel_rfl) ?_
  rw [show Tryz.f129.results.toList = [.cell 8 49, .tmp 9] from by kernel_rfl]
  have hm := may_iff ls p n
  unfold parNextP whenMay
  cases hmm : may ls p n with
  | false =>
    rw [if_neg (by simp)]
    obtain ⟨p1, p2⟩ := p
    simp (maxSteps := 4000000) only [go_sem, Nat.reduceAdd, reduceCtorEq, Nat.reduceEqDiff, tk25, dz25, tk49, tz49, dz49, kCFails, kPNext, kLess, kPJump, aPos, aMove, aMv, mNone, hmm]
  | true =>
    rw [if_pos rfl]
    have hi := hm.1 hmm
    obtain ⟨k0, rfl⟩ := Int.eq_ofNat_of_zero_le (show 0 ≤ n by omega)
    have hR : goes (fun q => nextPar ls q.1 op) (less) ((k0 : Int)).toNat p = goes (fun q => nextPar ls q.1 op) (less) k0 p := rfl
    rw [hR]
    clear hR
    obtain ⟨R, hR⟩ : ∃ R, R = goes (fun q => nextPar ls q.1 op) (less) k0 p := ⟨_, rfl⟩
    rw [← hR]
    obtain ⟨p1, p2⟩ := p
    simp (maxSteps := 4000000) only [go_sem, Nat.reduceAdd, reduceCtorEq, Nat.reduceEqDiff, tk25, dz25, tz49, kCFails, kPNext, kLess, kPJump, aPos, hmm]
    refine loopH_intro (α := Nat × Int × Int) (fun x => ([(0, .sl 1 (ls.map .str)), (2, .int .i64 x.1), (3, .bool op), (5, .ptr 0 2 1 0 0), (8, .ptr 1 5 1 0 0), (9, .bool false)], [.arr 25 2 [.agg [.int .i64 x.2.1, .int .i64 x.2.2]], .arr 49 5 [.agg [.int .i64 0, .int .i64 0, .int .i64 0, .bool false, .int .i64 0]]]))
      (fun x => x.1 ≤ k0 ∧ 0 ≤ x.2.1 ∧ x.2.1 < ls.length ∧ R = goes (fun q => nextPar ls q.1 op) (less) x.1 x.2) (fun x => x.1) (k0, p1, p2) ⟨Nat.le_refl _, hi.2.1, by have : p1.toNat < ls.length := hi.2.2.1; show p1 < _; omega, hR⟩ ?_ ?_
    · simp (maxSteps := 4000000) only [go_sem, reduceCtorEq, Nat.reduceEqDiff]
      exact ⟨by decide, subX_eq rfl rfl, subX_eq rfl rfl⟩
    rintro ⟨m, q1, q2⟩ ⟨hk, hq1, hq2, hR⟩
    dsimp only at hk hq1 hq2 hR
    cases m with
    | zero =>
      rw [goes] at hR
      subst hR
      simp (maxSteps := 4000000) only [go_sem, Nat.reduceAdd, reduceCtorEq, Nat.reduceEqDiff, tk25, dz25, tk49, dz49, kCFails, kPNext, kLess, kPJump, aPos, aMove, aMv, jumpO, jumpM, Int.reduceGT, decide_false]
    | succ m =>
      have c1 : decide (((m + 1 : Nat) : Int) > 0) = true := decide_eq_true (by omega)
      have w1 : IntKind.i64.wrap (((m + 1 : Nat) : Int) - 1) = (m : Int) := by rw [wrap64 (by omega) (by omega)]; omega
      rw [goes] at hR
      dsimp only at hR
      have hin := nextPar_in (ls := ls) (l := q1) (op := op) (by omega)
      obtain ⟨t, ht⟩ : ∃ t, t = nextPar ls q1 op := ⟨_, rfl⟩
      rw [← ht] at hR hin
      obtain ⟨t1, t2⟩ := t
      cases hg : less (q1, q2) (t1, t2) with
      | true =>
        rw [if_pos hg] at hR
        simp (maxSteps := 4000000) only [go_sem, Nat.reduceAdd, reduceCtorEq, Nat.reduceEqDiff, tk25, tz25, dz25, kCFails, kPNext, kLess, kPJump, aPos, aMv, jumpM, c1, w1, ←ht, hg]
        exact ⟨⟨hf, hq1, hq2⟩, (m, t1, t2), ⟨by dsimp only; omega, hin.1, hin.2, hR⟩, by dsimp only; omega, by decide, ⟨subX_eq rfl rfl, subX_eq rfl rfl⟩, rfl⟩
      | false =>
        rw [if_neg (by rw [hg]; simp)] at hR
        subst hR
        simp (maxSteps := 4000000) only [go_sem, Nat.reduceAdd, reduceCtorEq, Nat.reduceEqDiff, tk25, tz25, dz25, tk49, tz49, dz49, kCFails, kPNext, kLess, kPJump, aPos, aMove, aMv, jumpO, jumpM, mNone, c1, ←ht, hg]
        exact ⟨hf, hq1, hq2⟩

set_option maxRecDepth 20000 in
set_option maxHeartbeats 4000000 in
theorem calls_ParBack (ls : Ls) (p : Int × Int) (n : Int) (hf : okText ls) (hn : n ≤ 9223372036854775807) :
    CallsR Tryz.prog 128 [.sl 1 (ls.map .str), aPos p, .int .i64 n] [] (aMove (parBackP ls p n)) [] := by
  refine callsR_of (mrg := true) (dyn := []) (CtrOK.cons ok_pfails (CtrOK.cons ok_pback (CtrOK.cons ok_Less (CtrOK.cons ok_pjump (CtrOK.nil _))))) mixed Tryz.func128 rfl (by simp [Tryz.ntmps128]) (by kernel_rfl) ?_
  rw [show Tryz.f128.results.toList = [.cell 6 49, .tmp 7] from by kernel_rfl]
  have hm := may_iff ls p n
  unfold parBackP whenMay
  cases hmm : may ls p n with
  | false =>
    rw [if_neg (by simp)]
    obtain ⟨p1, p2⟩ := p
    simp (maxSteps := 4000000) only [go_sem, Nat.reduceAdd, reduceCtorEq, Nat.reduceEqDiff, tk25, dz25, tk49, tz49, dz49, kCFails, kPBack, kLess, kPJump, aPos, aMove, aMv, mNone, hmm]
  | true =>
    rw [if_pos rfl]
    have hi := hm.1 hmm
    obtain ⟨k0, rfl⟩ := Int.eq_ofNat_of_zero_le (show 0 ≤ n by omega)
    have hR : goes (fun q => backPar ls q.1) (fun a b => less b a) ((k0 : Int)).toNat p = goes (fun q => backPar ls q.1) (fun a b => less b a) k0 p := rfl
    rw [hR]
    clear hR
    obtain ⟨R, hR⟩ : ∃ R, R = goes (fun q => backPar ls q.1) (fun a b => less b a) k0 p := ⟨_, rfl⟩
    rw [← hR]
    obtain ⟨p1, p2⟩ := p
    simp (maxSteps := 4000000) only [go_sem, Nat.reduceAdd, reduceCtorEq, Nat.reduceEqDiff, tk25, dz25, tz49, kCFails, kPBack, kLess, kPJump, aPos, hmm]
    refine loopH_intro (α := Nat × Int × Int) (fun x => ([(0, .sl 1 (ls.map .str)), (2, .int .i64 x.1), (4, .ptr 0 2 1 0 0), (6, .ptr 1 5 1 0 0), (7, .bool false)], [.arr 25 2 [.agg [.int .i64 x.2.1, .int .i64 x.2.2]], .arr 49 5 [.agg [.int .i64 0, .int .i64 0, .int .i64 0, .bool false, .int .i64 0]]]))
      (fun x => x.1 ≤ k0 ∧ 0 ≤ x.2.1 ∧ x.2.1 < ls.length ∧ R = goes (fun q => backPar ls q.1) (fun a b => less b a) x.1 x.2) (fun x => x.1) (k0, p1, p2) ⟨Nat.le_refl _, hi.2.1, by have : p1.toNat < ls.length := hi.2.2.1; show p1 < _; omega, hR⟩ ?_ ?_
    · simp (maxSteps := 4000000) only [go_sem, reduceCtorEq, Nat.reduceEqDiff]
      exact ⟨by decide, subX_eq rfl rfl, subX_eq rfl rfl⟩
    rintro ⟨m, q1, q2⟩ ⟨hk, hq1, hq2, hR⟩
    dsimp only at hk hq1 hq2 hR
    cases m with
    | zero =>
      rw [goes] at hR
      subst hR
      simp (maxSteps := 4000000) only [go_sem, Nat.reduceAdd, reduceCtorEq, Nat.reduceEqDiff, tk25, dz25, tk49, dz49, kCFails, kPBack, kLess, kPJump, aPos, aMove, aMv, jumpO, jumpM, Int.reduceGT, decide_false]
    | succ m =>
      have c1 : decide (((m + 1 : Nat) : Int) > 0) = true := decide_eq_true (by omega)
      have w1 : IntKind.i64.wrap (((m + 1 : Nat) : Int) - 1) = (m : Int) := by rw [wrap64 (by omega) (by omega)]; omega
      rw [goes] at hR
      dsimp only at hR
      have hin := backPar_in (ls := ls) (l := q1) hq2 hq1
      obtain ⟨t, ht⟩ : ∃ t, t = backPar ls q1 := ⟨_, rfl⟩
      rw [← ht] at hR hin
      obtain ⟨t1, t2⟩ := t
      cases hg : less (t1, t2) (q1, q2) with
      | true =>
        rw [if_pos hg] at hR
        simp (maxSteps := 4000000) only [go_sem, Nat.reduceAdd, reduceCtorEq, Nat.reduceEqDiff, tk25, tz25, dz25, kCFails, kPBack, kLess, kPJump, aPos, aMv, jumpM, c1, w1, ←ht, hg]
        exact ⟨⟨hf, hq1, hq2⟩, (m, t1, t2), ⟨by dsimp only; omega, hin.1, hin.2, hR⟩, by dsimp only; omega, by decide, ⟨subX_eq rfl rfl, subX_eq rfl rfl⟩, rfl⟩
      | false =>
        rw [if_neg (by rw [hg]; simp)] at hR
        subst hR
        simp (maxSteps := 4000000) only [go_sem, Nat.reduceAdd, reduceCtorEq, Nat.reduceEqDiff, tk25, tz25, dz25, tk49, tz49, dz49, kCFails, kPBack, kLess, kPJump, aPos, aMove, aMv, jumpO, jumpM, mNone, c1, ←ht, hg]
        exact ⟨hf, hq1, hq2⟩
theorem ok_ParNext : C1OK Tryz.prog 129 (kMvNB parNextP) := C1OK.by (by kernel_rfl) (fun d h => calls_ParNext d.1 d.2.1 d.2.2.1 d.2.2.2 h.1 h.2) (fun _ => rfl) (fun _ => rfl)
theorem ok_ParBack : C1OK Tryz.prog 128 (kMvN parBackP) := C1OK.by (by kernel_rfl) (fun d h => calls_ParBack d.1 d.2.1 d.2.2 h.1 h.2) (fun _ => rfl) (fun _ => rfl)
end Go.Pg
namespace Go.Pg
open Go Go.Proofs

theorem cls_blank0 (b : UInt8) : (cls (b.toNat : Int) true == 0) = blank b := by
  have h := cls_blank b
  rw [bne, Bool.not_inj_iff] at h
  exact h
theorem app1_ints (l : List Int) (k : Int) : l.map (AV.int .i64) ++ [.int .i64 k] = (l ++ [k]).map (AV.int .i64) := by simp
theorem pureB_ints (l : List Int) : (l.map (AV.int .i64)).all AV.pureB = true := by simp [AV.pureB, AV.cells, AV.pureLeaf]
theorem getD_ints (l : List Int) (i : Nat) : (l.map (AV.int .i64)).getD i (.int .i64 0) = .int .i64 (l.getD i 0) := getD_map _ l i 0

def solidF (s : List UInt8) (from_ : Nat) : Option Nat := findUp (fun i => !blank (s.getD i 0)) (s.length - from_) from_
def aSolid (r : Option Nat) : AV := .tuple [.int .i64 ((r.getD 0 : Nat) : Int), .bool r.isSome]
set_option maxHeartbeats 4000000 in
theorem calls_solid (s : List UInt8) (k0 : Nat) (h2 : s.length ≤ 65536) (_ : k0 ≤ 65536) : CallsR Tryz.prog 147 [.str s, .int .i64 k0] [] (aSolid (solidF s k0)) [] := by
  refine callsR_of (mrg := true) (dyn := []) (CtrOK.cons ok_Of (CtrOK.nil _)) mixed Tryz.func147 rfl (by simp [Tryz.ntmps147]) (by kernel_rfl) ?_
  rw [show Tryz.f147.results.toList = [.tmp 4, .tmp 5] from by kernel_rfl]
  have hR : solidF s k0 = findUp (fun i => !blank (s.getD i 0)) (s.length - k0) k0 := rfl
  generalize solidF s k0 = R at hR ⊢
  simp (maxSteps := 4000000) only [go_sem, reduceCtorEq, Nat.reduceEqDiff, kOf]
  refine loopH_intro (α := Nat) (fun i => ([(0, .str s), (4, .int .i64 0), (5, .bool false), (6, .int .i64 i)], [])) (fun i => (i ≤ s.length ∨ i = k0) ∧ R = findUp (fun i => !blank (s.getD i 0)) (s.length - i) i) (fun i => s.length - i) k0 ⟨.inr rfl, hR⟩ ?_ ?_
  · simp (maxSteps := 4000000) only [go_sem, reduceCtorEq, Nat.reduceEqDiff]
    all_goals rfl
  rintro i ⟨hi, hR⟩
  by_cases hlt : i < s.length
  · have c1 : decide ((i : Int) < (s.length : Int)) = true := decide_eq_true (by omega)
    have w1 : IntKind.i64.wrap ((i : Int) + 1) = ((i + 1 : Nat) : Int) := by rw [wrap64 (by omega) (by omega)]; rfl
    rw [show s.length - i = (s.length - (i + 1)) + 1 by omega, findUp] at hR
    have hc := cls_blank (s.getD i 0)
    cases hg : blank (s.getD i 0) with
    | false =>
      rw [hg] at hR hc
      simp only [Bool.not_false, if_true] at hR
      subst hR
      simp (maxSteps := 4000000) only [go_sem, reduceCtorEq, Nat.reduceEqDiff, tk9, kOf, aSolid, c1, hc]
      exact ⟨by omega, by omega⟩
    | true =>
      rw [hg] at hR hc
      simp only [Bool.not_true, Bool.false_eq_true, if_false] at hR
      simp (maxSteps := 4000000) only [go_sem, reduceCtorEq, Nat.reduceEqDiff, tk9, kOf, c1, w1, hc]
      exact ⟨⟨by omega, by omega⟩, i + 1, ⟨.inl (by omega), hR⟩, by omega, rfl⟩
  · have c1 : decide ((i : Int) < (s.length : Int)) = false := decide_eq_false (by omega)
    rw [show s.length - i = 0 by omega, findUp] at hR
    subst hR
    simp (maxSteps := 4000000) only [go_sem, reduceCtorEq, Nat.reduceEqDiff, tk9, kOf, aSolid, c1]
def kSolid : C1 := C1.by [.id, .id] (lCons cStr (lOne (cInt .i64))) (fun d => d.1.length ≤ 65536 ∧ 0 ≤ d.2 ∧ d.2 ≤ 65536) (fun d => aSolid (solidF d.1 d.2.toNat)) (fun _ => [])
theorem ok_solid : C1OK Tryz.prog 147 kSolid := C1OK.by (by kernel_rfl) (fun d h => by
  obtain ⟨k, hk⟩ := Int.eq_ofNat_of_zero_le h.2.1
  have := calls_solid d.1 k h.1 (by have := h.2.2; omega)
  rw [show d.2.toNat = k by omega]
  have e : (lCons cStr (lOne (cInt .i64))).enc d = [.str d.1, .int .i64 k] := by show [AV.str d.1, AV.int .i64 d.2] = _; rw [hk]
  rw [e]; exact this) (fun _ => rfl) (fun _ => rfl)

def isStop (b : UInt8) : Bool := b == 46 || b == 33 || b == 63
def stopB (s : List UInt8) (i : Nat) : Bool := isStop (s.getD i 0) && (i + 1 == s.length || blank (s.getD (i + 1) 0))
set_option maxHeartbeats 4000000 in
theorem calls_stop (s : List UInt8) (i : Nat) (h2 : s.length ≤ 65536) (h1 : i < s.length) : CallsR Tryz.prog 153 [.str s, .int .i64 i] [] (.bool (stopB s i)) [] := by
  refine callsR_of (mrg := true) (dyn := []) (CtrOK.cons ok_Of (CtrOK.nil _)) mixed Tryz.func153 rfl (by simp [Tryz.ntmps153]) (by kernel_rfl) ?_
  rw [show Tryz.f153.results.toList = [.tmp 4] from by kernel_rfl]
  have w1 : IntKind.i64.wrap ((i : Int) + 1) = ((i + 1 : Nat) : Int) := by rw [wrap64 (by omega) (by omega)]; rfl
  have w2 : IntKind.i64.wrap ((s.length : Int) - 1) = (s.length : Int) - 1 := wrap64 (by omega) (by omega)
  have e1 : ((i : Int) == (s.length : Int) - 1) = (i + 1 == s.length) := by
    rw [Bool.eq_iff_iff, beq_iff_eq, beq_iff_eq]; omega
  have e2 := cls_blank0 (s.getD (i + 1) 0)
  unfold stopB isStop
  have b1 : (((s.getD i 0).toNat : Int) == 46) = (s.getD i 0 == 46) := byte_eq (s.getD i 0) 46
  have b2 : (((s.getD i 0).toNat : Int) == 33) = (s.getD i 0 == 33) := byte_eq (s.getD i 0) 33
  have b3 : (((s.getD i 0).toNat : Int) == 63) = (s.getD i 0 == 63) := byte_eq (s.getD i 0) 63
  generalize (s.getD i 0 == 46) = x1 at b1 ⊢
  generalize (s.getD i 0 == 33) = x2 at b2 ⊢
  generalize (s.getD i 0 == 63) = x3 at b3 ⊢
  cases x1 <;> cases x2 <;> cases x3
  all_goals
    simp (maxSteps := 4000000) only [go_sem, reduceCtorEq, Nat.reduceEqDiff, tk9, kOf, w1, w2, e1, e2, b1, b2, b3]
    first | exact ⟨⟨by omega, h1⟩, rfl⟩ | exact ⟨⟨by omega, h1⟩, fun h => ⟨h, by omega, by simp only [beq_eq_false_iff_ne, ne_eq] at h; omega⟩, rfl⟩
def kStop : C1 := C1.by [.id, .id] (lCons cStr (lOne (cInt .i64))) (fun d => d.1.length ≤ 65536 ∧ 0 ≤ d.2 ∧ d.2.toNat < d.1.length) (fun d => .bool (stopB d.1 d.2.toNat)) (fun _ => [])
theorem ok_stop : C1OK Tryz.prog 153 kStop := C1OK.by (by kernel_rfl) (fun d h => by
  obtain ⟨k, hk⟩ := Int.eq_ofNat_of_zero_le h.2.1
  have := calls_stop d.1 k h.1 (by have := h.2.2; omega)
  rw [show d.2.toNat = k by omega]
  have e : (lCons cStr (lOne (cInt .i64))).enc d = [.str d.1, .int .i64 k] := by show [AV.str d.1, AV.int .i64 d.2] = _; rw [hk]
  rw [e]; exact this) (fun _ => rfl) (fun _ => rfl)

/-- Where sentences begin in a line's first bytes, and whether one begins with the next byte that is no blank. -/
def sentTo (s : List UInt8) (o : Bool) : Nat → List Int × Bool
  | 0 => ([], o)
  | k + 1 => (if ((sentTo s o k).2 && !blank (s.getD k 0)) = true then (sentTo s o k).1 ++ [(k : Int)] else (sentTo s o k).1, (if ((sentTo s o k).2 && !blank (s.getD k 0)) = true then false else (sentTo s o k).2) || stopB s k)
theorem sentTo_len (s : List UInt8) (o : Bool) : ∀ k, (sentTo s o k).1.length ≤ k
  | 0 => by simp [sentTo]
  | k + 1 => by
    have := sentTo_len s o k
    simp only [sentTo]
    split
    · rw [List.length_append, List.length_singleton]; omega
    · omega
set_option maxRecDepth 20000 in
set_option maxHeartbeats 4000000 in
theorem calls_starts (s : List UInt8) (o : Bool) (h2 : s.length ≤ 65536) : CallsR Tryz.prog 146 [.str s, .bool o] [] (.tuple [.sl 1 ((sentTo s o s.length).1.map (AV.int .i64)), .bool (sentTo s o s.length).2]) [] := by
  refine callsR_of (mrg := true) (dyn := []) (CtrOK.cons ok_Of (CtrOK.cons ok_stop (CtrOK.nil _))) mixed Tryz.func146 rfl (by simp [Tryz.ntmps146]) (by kernel_rfl) ?_
  rw [show Tryz.f146.results.toList = [.tmp 4, .tmp 5] from by kernel_rfl]
  simp (maxSteps := 4000000) only [go_sem, reduceCtorEq, Nat.reduceEqDiff, tk9, kOf, kStop]
  refine loopH_intro (α := Nat × List Int × Bool) (fun x => ([(0, .str s), (1, .bool x.2.2), (4, .nls), (5, .bool false), (6, .own 0 1 x.2.1.length), (9, .int .i64 s.length), (10, .int .i64 x.1)], [.arr 3 1 (x.2.1.map (AV.int .i64))]))
    (fun x => x.1 ≤ s.length ∧ x.2 = sentTo s o x.1) (fun x => s.length - x.1) (0, [], o) ⟨Nat.zero_le _, rfl⟩ ?_ ?_
  · simp (maxSteps := 4000000) only [go_sem, reduceCtorEq, Nat.reduceEqDiff]
    all_goals rfl
  rintro ⟨i, out, b⟩ ⟨hi, hx⟩
  dsimp only at hi hx
  have hol : out.length ≤ i := by have := sentTo_len s o i; rw [← hx] at this; exact this
  by_cases hlt : i < s.length
  · have c1 : decide ((i : Int) < (s.length : Int)) = true := decide_eq_true (by omega)
    have w1 : IntKind.i64.wrap ((i : Int) + 1) = ((i + 1 : Nat) : Int) := by rw [wrap64 (by omega) (by omega)]; rfl
    have hc := cls_blank (s.getD i 0)
    have hs : sentTo s o (i + 1) = (if (b && !blank (s.getD i 0)) = true then out ++ [(i : Int)] else out, (if (b && !blank (s.getD i 0)) = true then false else b) || stopB s i) := by
      simp only [sentTo, ← hx]
    cases b <;> cases hb : blank (s.getD i 0)
    all_goals
      rw [hb] at hs hc
      simp only [Bool.not_true, Bool.not_false, Bool.and_true, Bool.and_false, Bool.false_eq_true, if_true, if_false, Bool.false_or, Bool.true_or] at hs
      simp (maxSteps := 4000000) only [go_sem, Nat.reduceAdd, reduceCtorEq, Nat.reduceEqDiff, Nat.reducePow, Nat.reduceLeDiff, eb3, tk9, tk128, kOf, kStop, app1_ints, c1, w1, hc]
      first
        | exact ⟨⟨h2, by omega, hlt⟩, (i + 1, _), ⟨hlt, hs.symm⟩, by dsimp only; omega, subX_eq rfl (pureB_ints _), rfl, rfl, rfl⟩
        | exact ⟨⟨by omega, hlt⟩, (i + 1, _), ⟨hlt, hs.symm⟩, by dsimp only; omega, subX_eq rfl (pureB_ints _), rfl, rfl, rfl⟩
        | exact ⟨⟨by omega, hlt⟩, ⟨by decide, by omega⟩, ⟨h2, by omega, hlt⟩, (i + 1, _), ⟨hlt, hs.symm⟩, by dsimp only; omega, subX_eq rfl (pureB_ints _), rfl, by simp, rfl⟩
  · have c1 : decide ((i : Int) < (s.length : Int)) = false := decide_eq_false (by omega)
    have hil : i = s.length := by omega
    subst hil
    simp (maxSteps := 4000000) only [go_sem, reduceCtorEq, Nat.reduceEqDiff, kOf, kStop, pureB_ints, c1]
    rw [← hx]
    exact ⟨rfl, rfl⟩
def kPStarts : C1 := C1.by [.id, .id] (lCons cStr (lOne cBool)) (fun d => d.1.length ≤ 65536) (fun d => .tuple [.sl 1 ((sentTo d.1 d.2 d.1.length).1.map (AV.int .i64)), .bool (sentTo d.1 d.2 d.1.length).2]) (fun _ => [])
theorem ok_pstarts : C1OK Tryz.prog 146 kPStarts := C1OK.by (by kernel_rfl) (fun d h => calls_starts d.1 d.2 h) (fun _ => rfl) (fun _ => rfl)

/-! ### All lines -/
def flatTo {α : Type} (f : Nat → List α) (n : Nat) : List α := (List.range n).flatMap f
theorem flatTo_succ {α : Type} (f : Nat → List α) (n : Nat) : flatTo f (n + 1) = flatTo f n ++ f n := by
  unfold flatTo
  rw [List.range_succ, List.flatMap_append]
  simp
theorem flatTo_get {α : Type} (f : Nat → List α) (i : Nat) : ∀ (n : Nat), i < n → ∀ (j : Nat) (p : α), (f i)[j]? = some p → (flatTo f n)[(flatTo f i).length + j]? = some p := by
  intro n
  induction n with
  | zero => intro h; omega
  | succ n ih =>
    intro h j p hp
    rw [flatTo_succ]
    by_cases he : i = n
    · subst he
      rw [List.getElem?_append_right (by omega), show (flatTo f i).length + j - (flatTo f i).length = j by omega]
      exact hp
    · have h1 := ih (by omega) j p hp
      rw [List.getElem?_append_left (List.getElem?_eq_some_iff.1 h1).1]
      exact h1
theorem flatTo_len {α : Type} (f : Nat → List α) (B : Nat) (h : ∀ i, (f i).length ≤ B) : ∀ n, (flatTo f n).length ≤ n * B
  | 0 => by simp [flatTo]
  | n + 1 => by
    have := flatTo_len f B h n
    have := h n
    rw [flatTo_succ, List.length_append, Nat.add_mul, Nat.one_mul]; omega

def sentOpen (ls : Ls) : Nat → Bool
  | 0 => true
  | k + 1 => if (ls.getD k [] == []) = true then true else (sentTo (ls.getD k []) (sentOpen ls k) (ls.getD k []).length).2 && (solidF (ls.getD k []) 0).isSome
def sentLine (ls : Ls) (k : Nat) : List (Int × Int) :=
  if (ls.getD k [] == []) = true then (if (k == 0 || !(ls.getD (k - 1) [] == [])) = true then [((k : Int), 0)] else [])
  else (sentTo (ls.getD k []) (sentOpen ls k) (ls.getD k []).length).1.map fun c => ((k : Int), c)
def sents (ls : Ls) : List (Int × Int) := flatTo (sentLine ls) ls.length

set_option maxRecDepth 20000 in
set_option maxHeartbeats 8000000 in
theorem it_sent (ls : Ls) (hf : okText ls) : ItR Tryz.prog 145 [.rp [.sl 1 (ls.map .str)]] (Tell.seq ((sents ls).map fun p => [aPos p])) := by
  refine itR_of (mrg := true) (dyn := []) (CtrOK.cons ok_pstarts (CtrOK.cons ok_solid (CtrOK.nil _))) mixed Tryz.func145 rfl (by simp [Tryz.ntmps145]) (by kernel_rfl) (by kernel_rfl) ?_ ?_
  · intro x hx
    obtain ⟨p, _, rfl⟩ := List.mem_map.1 hx
    rfl
  intro l
  have hll := hf.1
  have hls := fits_getD hf
  simp (maxSteps := 4000000) only [go_sem, ↓wpY_H, ↓wpYH_seq, ↓wpYH_block, ↓wpYH_loop, ↓wpYH_region0, regYH_none, runYH_nil, runYH_cons, ↓oneYH_eq, yarg, yselH_none, ↓thenY_normal, reduceCtorEq, Nat.reduceEqDiff, tk22, kPStarts, kSolid]
  refine loopYH_intro (α := Nat) (fun i => (some (flatTo (sentLine ls) i).length, [(0, .yld l), (1, .rp [.sl 1 (ls.map .str)]), (3, .bool (sentOpen ls i)), (12, .sl 1 (ls.map .str)), (13, .int .i64 ls.length), (14, .int .i64 i)], []))
    (fun i => i ≤ ls.length) (fun i => ls.length - i) 0 (by omega) (by simp [flatTo]) ?_ ?_
  · simp (maxSteps := 4000000) only [go_sem, reduceCtorEq, Nat.reduceEqDiff]
    all_goals rfl
  intro i hi
  by_cases hlt : i < ls.length
  · have hct : decide ((i : Int) < (ls.length : Int)) = true := decide_eq_true (by omega)
    have hsl := hls i
    have hts := flatTo_succ (sentLine ls) i
    have hop : sentOpen ls (i + 1) = if (ls.getD i [] == []) = true then true else (sentTo (ls.getD i []) (sentOpen ls i) (ls.getD i []).length).2 && (solidF (ls.getD i []) 0).isSome := rfl
    have hln : sentLine ls i = if (ls.getD i [] == []) = true then (if (i == 0 || !(ls.getD (i - 1) [] == [])) = true then [((i : Int), 0)] else []) else (sentTo (ls.getD i []) (sentOpen ls i) (ls.getD i []).length).1.map fun c => ((i : Int), c) := rfl
    have w1 : IntKind.i64.wrap ((i : Int) + 1) = ((i + 1 : Nat) : Int) := by rw [wrap64 (by omega) (by omega)]; rfl
    have hg := flatTo_get (sentLine ls) i ls.length hlt
    cases hse : (ls.getD i [] == []) with
    | true =>
      rw [hse, if_pos rfl] at hop hln
      cases i with
      | zero =>
        have hln : sentLine ls 0 = [(0, 0)] := hln
        have hy0 := hg 0 (0, 0) (by rw [hln]; rfl)
        rw [Nat.add_zero] at hy0
        have hy1 : (sents ls)[(flatTo (sentLine ls) 0).length]? = some (0, 0) := hy0
        have hct0 : decide ((0 : Int) < (ls.length : Int)) = true := hct
        have w1 : IntKind.i64.wrap ((0 : Int) + 1) = 1 := rfl
        simp (maxSteps := 4000000) only [go_sem, ↓wpY_H, ↓wpYH_skip, ↓wpYH_ret, ↓wpYH_exit, ↓wpYH_seq, ↓wpYH_cond, ↓wpYH_block, ↓wpYH_region0, regYH_none, runYH_nil, runYH_cons, ↓oneYH_eq, yarg, yselH_none, yselH_some, yieldH_some, ↓thenY_normal, ↓thenY_ret, ↓thenY_exit, ↓blockY_ret, ↓blockY_exit, ↓endY_normal, ↓endY_ret, endT_none, endT_some, Nat.reduceAdd, reduceCtorEq, Nat.reduceEqDiff, Int.reduceToNat, Int.reduceLE, Nat.reduceLeDiff, tk9, dz9, tk22, tk25, tz25, kPStarts, kSolid, hct0, hse, List.getElem?_map, hy1, w1]
        exact ⟨by omega, rfl, rfl, 1, by omega, by omega, by rw [hts, hln, List.length_append]; rfl, hop.symm, rfl⟩
      | succ i =>
        have w2 : IntKind.i64.wrap (((i + 1 : Nat) : Int) - 1) = (i : Int) := by rw [wrap64 (by omega) (by omega)]; omega
        have e1 : (((i + 1 : Nat) : Int) == 0) = false := by rw [beq_eq_false_iff_ne]; omega
        have e2 : (i + 1 == 0) = false := by rw [beq_eq_false_iff_ne]; omega
        rw [e2, Bool.false_or, Nat.add_sub_cancel] at hln
        cases h0 : (ls.getD i [] == []) with
        | false =>
          rw [h0, Bool.not_false, if_pos rfl] at hln
          have hy0 := hg 0 (((i + 1 : Nat) : Int), 0) (by rw [hln]; rfl)
          rw [Nat.add_zero] at hy0
          have hy1 : (sents ls)[(flatTo (sentLine ls) (i + 1)).length]? = some (((i + 1 : Nat) : Int), 0) := hy0
          simp (maxSteps := 4000000) only [go_sem, ↓wpY_H, ↓wpYH_skip, ↓wpYH_ret, ↓wpYH_exit, ↓wpYH_seq, ↓wpYH_cond, ↓wpYH_block, ↓wpYH_region0, regYH_none, runYH_nil, runYH_cons, ↓oneYH_eq, yarg, yselH_none, yselH_some, yieldH_some, ↓thenY_normal, ↓thenY_ret, ↓thenY_exit, ↓blockY_ret, ↓blockY_exit, ↓endY_normal, ↓endY_ret, endT_none, endT_some, Nat.reduceAdd, reduceCtorEq, Nat.reduceEqDiff, Nat.reduceLeDiff, tk9, dz9, tk22, tk25, tz25, kPStarts, kSolid, hct, hse, e1, h0, List.getElem?_map, hy1, w1, w2]
          exact ⟨by omega, by omega, rfl, rfl, i + 2, by omega, by omega, by rw [hts, hln, List.length_append]; rfl, hop.symm, rfl⟩
        | true =>
          rw [h0, Bool.not_true, if_neg (by simp)] at hln
          simp (maxSteps := 4000000) only [go_sem, ↓wpY_H, ↓wpYH_skip, ↓wpYH_exit, ↓wpYH_seq, ↓wpYH_cond, ↓wpYH_block, ↓wpYH_region0, regYH_none, runYH_nil, runYH_cons, ↓oneYH_eq, yarg, yselH_none, ↓thenY_normal, ↓thenY_exit, ↓blockY_exit, ↓endY_normal, endT_some, reduceCtorEq, Nat.reduceEqDiff, tk9, dz9, tk22, kPStarts, kSolid, hct, hse, e1, h0, w1, w2]
          exact ⟨by omega, by omega, i + 2, by omega, by omega, by rw [hts, hln, List.append_nil], hop.symm, rfl⟩
    | false =>
      rw [hse, if_neg (by simp)] at hop hln
      have hlen := sentTo_len (ls.getD i []) (sentOpen ls i) (ls.getD i []).length
      obtain ⟨r, hr⟩ : ∃ r, r = sentTo (ls.getD i []) (sentOpen ls i) (ls.getD i []).length := ⟨_, rfl⟩
      rw [← hr] at hop hln hlen
      obtain ⟨out, b⟩ := r
      dsimp only at hop hln hlen
      simp (maxSteps := 4000000) only [go_sem, ↓wpY_H, ↓wpYH_skip, ↓wpYH_seq, ↓wpYH_cond, ↓wpYH_block, ↓wpYH_loop, ↓wpYH_region0, regYH_none, runYH_nil, runYH_cons, ↓oneYH_eq, yarg, yselH_none, ↓thenY_normal, reduceCtorEq, Nat.reduceEqDiff, tk9, dz9, tk22, tk128, kPStarts, kSolid, hct, hse, ←hr]
      refine ⟨by omega, by omega, ?_⟩
      refine loopYH_intro (α := Nat) (fun k => (some ((flatTo (sentLine ls) i).length + k), [(0, .yld l), (1, .rp [.sl 1 (ls.map .str)]), (4, .int .i64 i), (5, .str (ls.getD i [])), (7, .bool b), (12, .sl 1 (ls.map .str)), (13, .int .i64 ls.length), (14, .int .i64 i), (44, .sl 1 (out.map (AV.int .i64))), (45, .int .i64 out.length), (46, .int .i64 k)], []))
        (fun k => k ≤ out.length) (fun k => out.length - k) 0 (by omega) ?_ ?_ ?_
      · rfl
      · simp (maxSteps := 4000000) only [go_sem, reduceCtorEq, Nat.reduceEqDiff]
        all_goals rfl
      intro k hk
      by_cases hk2 : k < out.length
      · have c2 : decide ((k : Int) < (out.length : Int)) = true := decide_eq_true (by omega)
        have w3 : IntKind.i64.wrap ((k : Int) + 1) = ((k + 1 : Nat) : Int) := by rw [wrap64 (by omega) (by omega)]; rfl
        have hy0 := hg k ((i : Int), out.getD k 0) (by rw [hln, List.getElem?_map, List.getD_eq_getElem?_getD, List.getElem?_eq_getElem hk2]; rfl)
        have hy1 : (sents ls)[(flatTo (sentLine ls) i).length + k]? = some ((i : Int), out.getD k 0) := hy0
        simp (maxSteps := 4000000) only [go_sem, ↓wpY_H, ↓wpYH_skip, ↓wpYH_ret, ↓wpYH_seq, ↓wpYH_cond, ↓wpYH_block, ↓wpYH_region0, regYH_none, runYH_nil, runYH_cons, ↓oneYH_eq, yarg, yselH_none, yselH_some, yieldH_some, ↓thenY_normal, ↓thenY_ret, ↓blockY_normal, ↓blockY_ret, ↓endY_ret, endT_none, Nat.reduceAdd, reduceCtorEq, Nat.reduceEqDiff, Nat.reduceLeDiff, tk3, dz3, tk25, tz25, tk128, kPStarts, kSolid, getD_ints, List.getElem?_map, hy1, c2, w3]
        exact ⟨⟨by omega, hk2⟩, rfl, rfl, k + 1, by omega, by omega, by omega, rfl⟩
      · have c2 : decide ((k : Int) < (out.length : Int)) = false := decide_eq_false (by omega)
        have hke : k = out.length := by omega
        subst hke
        obtain ⟨so, hso⟩ : ∃ so, so = solidF (ls.getD i []) 0 := ⟨_, rfl⟩
        rw [← hso] at hop
        simp (maxSteps := 4000000) only [go_sem, ↓wpY_H, ↓wpYH_exit, ↓wpYH_seq, ↓wpYH_cond, ↓wpYH_region0, regYH_none, runYH_nil, runYH_cons, ↓oneYH_eq, yarg, yselH_none, ↓thenY_normal, ↓thenY_exit, ↓blockY_normal, ↓blockY_exit, ↓endY_normal, endT_some, reduceCtorEq, Nat.reduceEqDiff, Int.reduceToNat, Int.reduceLE, kPStarts, kSolid, aSolid, ←hso, c2, w1]
        refine ⟨hsl, fun hb => ?_, fun hb => ?_⟩
        · rw [hb] at hop
          exact ⟨i + 1, by omega, by omega, by rw [hts, hln, List.length_append, List.length_map], hop.symm, rfl⟩
        · rw [hb] at hop
          exact ⟨i + 1, by omega, by omega, by rw [hts, hln, List.length_append, List.length_map], hop.symm, rfl⟩
  · have hcf : decide ((i : Int) < (ls.length : Int)) = false := decide_eq_false (by omega)
    have hil : i = ls.length := by omega
    subst hil
    simp (maxSteps := 4000000) only [go_sem, ↓wpY_H, ↓wpYH_exit, ↓wpYH_seq, ↓wpYH_cond, ↓wpYH_region0, regYH_none, runYH_nil, runYH_cons, ↓oneYH_eq, yarg, yselH_none, ↓thenY_normal, ↓thenY_exit, ↓blockY_exit, ↓endY_normal, endT_some, reduceCtorEq, Nat.reduceEqDiff, hcf]
    rfl
def aSent (ls : Ls) : AV := .fn 145 [.rp [.sl 1 (ls.map .str)]]
def kSents1 : C1 := C1.itBy (lOne (cRp (lOne cStrs))) (fun d => okText d) (fun d => (sents d).map fun p => [aPos p])
theorem ok_sents1 : C1OK Tryz.prog 145 kSents1 := C1OK.itBy (by kernel_rfl) (fun d h => it_sent d h)
theorem calls_Sentences (ls : Ls) : CallsR Tryz.prog 140 [.sl 1 (ls.map .str)] [] (aSent ls) [] := by
  refine callsR_of (mrg := true) (dyn := []) (CtrOK.nil _) mixed Tryz.func140 rfl (by simp [Tryz.ntmps140]) (by kernel_rfl) ?_
  rw [show Tryz.f140.results.toList = [.tmp 2] from by kernel_rfl]
  unfold aSent
  simp (maxSteps := 4000000) only [go_sem, reduceCtorEq, Nat.reduceEqDiff]
def kSentsF : C1 := C1.by [.sl 1 []] (lOne cStrs) (fun _ => True) (fun d => aSent d) (fun _ => [])
theorem ok_SentsF : C1OK Tryz.prog 140 kSentsF := C1OK.by (by kernel_rfl) (fun d _ => calls_Sentences d) (fun d => by unfold aSent; rfl) (fun _ => rfl)
end Go.Pg
