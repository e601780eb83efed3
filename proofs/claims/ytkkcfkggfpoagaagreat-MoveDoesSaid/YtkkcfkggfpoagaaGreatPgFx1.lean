/- Small parts of the document's motions. Sizes of lines, lines that may be asked, places, changes held against one another. Places behind a place, and ahead of it. Few lines; places by two numbers. Where words begin and end, by the document: plain. Where words begin and end: the program's iterator. -/
import Derived.Test.YtkkcfkggfpoagaaGreatPgBs
import Derived.Test.YtkkcfkggfpoagaaGreatPgFx0
import Derived.Test.YtkkcfkggfpoagaaGreatPgYld4
set_option linter.unusedVariables false
set_option linter.unusedSimpArgs false
namespace Go.Pg
open Go Go.Proofs

abbrev Mv := (Int × Int) × Int × Bool × Int
def aMv (m : Mv) : AV := .agg [.int .i64 m.1.1, .int .i64 m.1.2, .int .i64 m.2.1, .bool m.2.2.1, .int .i64 m.2.2.2]
def aMove (r : Mv × Bool) : AV := .tuple [aMv r.1, .bool r.2]
def mNone : Mv × Bool := (((0, 0), 0, false, 0), false)
def mTo (p : Int × Int) (way : Int) : Mv × Bool := ((p, way, false, -1), true)

abbrev lPos2 : CdL (Int × Int) := lCons (cInt .i64) (lOne (cInt .i64))
abbrev cPos2 : Cd (Int × Int) := cAgg lPos2
def kOf : C1 := C1.by [.id, .id] (lCons (cInt .u8) (lOne cBool)) (fun _ => True) (fun d => .int .i64 (cls d.1 d.2)) (fun _ => [])
theorem ok_Of : C1OK Tryz.prog 74 kOf := C1OK.by (by kernel_rfl) (fun d _ => calls_Of d.1 d.2) (fun _ => rfl) (fun _ => rfl)
theorem ok_ROf : C1OK Tryz.prog 101 kOf := C1OK.by (by kernel_rfl) (fun d _ => calls_ROf d.1 d.2) (fun _ => rfl) (fun _ => rfl)
def kLess : C1 := C1.by [.id, .id] (lCons cPos2 (lOne cPos2)) (fun _ => True) (fun d => .bool (less d.1 d.2)) (fun _ => [])
theorem ok_Less : C1OK Tryz.prog 105 kLess := C1OK.by (by kernel_rfl) (fun d _ => calls_Less d.1 d.2) (fun _ => rfl) (fun _ => rfl)
theorem ok_RLess : C1OK Tryz.prog 92 kLess := C1OK.by (by kernel_rfl) (fun d _ => calls_RLess d.1 d.2) (fun _ => rfl) (fun _ => rfl)
def kRPlace : C1 := C1.by [.sl 1 [], .id] (lCons cStrs (lOne cPos2)) (fun _ => True) (fun d => .bool (place d.1 d.2.1 d.2.2)) (fun _ => [])
theorem ok_R5Place : C1OK Tryz.prog 118 kRPlace := C1OK.by (by kernel_rfl) (fun d _ => calls_RPlace d.1 d.2.1 d.2.2) (fun _ => rfl) (fun _ => rfl)
theorem ok_CPlace : C1OK Tryz.prog 102 kRPlace := C1OK.by (by kernel_rfl) (fun d _ => calls_Place d.1 d.2.1 d.2.2) (fun _ => rfl) (fun _ => rfl)

def may (ls : Ls) (p : Int × Int) (n : Int) : Bool := place ls p.1 p.2 && decide (n ≥ 1)
theorem calls_may (ls : Ls) (p : Int × Int) (n : Int) : CallsR Tryz.prog 83 [.sl 1 (ls.map .str), aPos p, .int .i64 n] [] (.bool (may ls p n)) [] := by
  refine callsR_of (mrg := true) (dyn := []) (CtrOK.cons ok_R5Place (CtrOK.nil _)) mixed Tryz.func83 rfl (by simp [Tryz.ntmps83]) (by kernel_rfl) ?_
  rw [show Tryz.f83.results.toList = [.tmp 6] from by kernel_rfl]
  simp (maxSteps := 4000000) only [go_sem, Nat.reduceAdd, reduceCtorEq, Nat.reduceEqDiff, tk25, dz25, kRPlace, aPos]
  all_goals rfl

theorem calls_none : CallsR Tryz.prog 84 [] [] (aMove mNone) [] := by
  refine callsR_of (mrg := true) (dyn := []) (CtrOK.nil _) mixed Tryz.func84 rfl (by simp [Tryz.ntmps84]) (by kernel_rfl) ?_
  rw [show Tryz.f84.results.toList = [.cell 0 49, .tmp 1] from by kernel_rfl]
  simp (maxSteps := 4000000) only [go_sem, Nat.reduceAdd, reduceCtorEq, Nat.reduceEqDiff, tk49, tz49, dz49, aMove, aMv, mNone]

theorem calls_to (l c : Int) : CallsR Tryz.prog 85 [.int .i64 l, .int .i64 c] [] (aMove (mTo (l, c) 0)) [] := by
  refine callsR_of (mrg := true) (dyn := []) (CtrOK.nil _) mixed Tryz.func85 rfl (by simp [Tryz.ntmps85]) (by kernel_rfl) ?_
  rw [show Tryz.f85.results.toList = [.cell 4 49, .tmp 5] from by kernel_rfl]
  simp (maxSteps := 4000000) only [go_sem, Nat.reduceAdd, reduceCtorEq, Nat.reduceEqDiff, Nat.reduceLeDiff, tk25, tz25, tk49, tz49, dz49, aMove, aMv, mTo]

def kNone : C1 := C1.by [] lNil (fun _ => True) (fun _ => aMove mNone) (fun _ => [])
theorem ok_none : C1OK Tryz.prog 84 kNone := C1OK.by (by kernel_rfl) (fun _ _ => calls_none) (fun _ => rfl) (fun _ => rfl)

def nth (l : List (Int × Int)) (n way : Int) : Mv × Bool := if n > l.length then mNone else mTo (l.getD (n - 1).toNat (0, 0)) way
theorem calls_nth (l : List (Int × Int)) (n way : Int) (h : 1 ≤ n) (hb : l.length ≤ 140737488355328) : CallsR Tryz.prog 90 [.sl 2 (l.map aPos), .int .i64 n, .int .i64 way] [] (aMove (nth l n way)) [] := by
  refine callsR_of (mrg := true) (dyn := []) (CtrOK.cons ok_none (CtrOK.nil _)) mixed Tryz.func90 rfl (by simp [Tryz.ntmps90]) (by kernel_rfl) ?_
  rw [show Tryz.f90.results.toList = [.cell 6 49, .tmp 7] from by kernel_rfl]
  simp (maxSteps := 4000000) only [go_sem, Nat.reduceAdd, reduceCtorEq, Nat.reduceEqDiff, Nat.reduceLeDiff, tk25, dz25, tk37, tk49, tz49, dz49, aMove, aMv, aPos, kNone, getD_pos]
  refine ⟨fun h1 => ?_, fun h1 => ?_⟩
  · rw [nth, if_pos h1]
    exact ⟨⟨rfl, rfl, rfl, rfl, rfl⟩, rfl⟩
  · rw [nth, if_neg (by omega), wrap64 (by omega) (by omega)]
    exact ⟨by omega, ⟨rfl, rfl, rfl, rfl, rfl⟩, rfl⟩

theorem calls_end (ls : Ls) (h : 0 < ls.length) (hb : ls.length ≤ 140737488355328) : CallsR Tryz.prog 91 [.sl 1 (ls.map .str)] [] (aPos (ls.length - 1, (ls.getD (ls.length - 1) []).length)) [] := by
  refine callsR_of (mrg := true) (dyn := []) (CtrOK.nil _) mixed Tryz.func91 rfl (by simp [Tryz.ntmps91]) (by kernel_rfl) ?_
  rw [show Tryz.f91.results.toList = [.cell 2 25] from by kernel_rfl]
  simp (maxSteps := 4000000) only [go_sem, Nat.reduceAdd, reduceCtorEq, Nat.reduceEqDiff, Nat.reduceLeDiff, tk9, dz9, tk22, tk25, tz25, dz25, aPos]
  rw [wrap64 (by omega) (by omega)]
  have e : ((ls.length : Int) - 1).toNat = ls.length - 1 := by omega
  rw [e]
  exact ⟨by omega, rfl, rfl⟩

def kMay : C1 := C1.by [.sl 1 [], .id, .id] (lCons cStrs (lCons cPos2 (lOne (cInt .i64)))) (fun _ => True) (fun d => .bool (may d.1 d.2.1 d.2.2)) (fun _ => [])
theorem ok_may : C1OK Tryz.prog 83 kMay := C1OK.by (by kernel_rfl) (fun d _ => calls_may d.1 d.2.1 d.2.2) (fun _ => rfl) (fun _ => rfl)
def kTo : C1 := C1.by [.id, .id] (lCons (cInt .i64) (lOne (cInt .i64))) (fun _ => True) (fun d => aMove (mTo (d.1, d.2) 0)) (fun _ => [])
theorem ok_to : C1OK Tryz.prog 85 kTo := C1OK.by (by kernel_rfl) (fun d _ => calls_to d.1 d.2) (fun _ => rfl) (fun _ => rfl)
def kNth : C1 := C1.by [.sl 2 [], .id, .id] (lCons (cSl 2 cPos2) (lCons (cInt .i64) (lOne (cInt .i64)))) (fun d => 1 ≤ d.2.1 ∧ d.1.length ≤ 140737488355328) (fun d => aMove (nth d.1 d.2.1 d.2.2)) (fun _ => [])
theorem ok_nth : C1OK Tryz.prog 90 kNth := C1OK.by (by kernel_rfl) (fun d h => calls_nth d.1 d.2.1 d.2.2 h.1 h.2) (fun _ => rfl) (fun _ => rfl)
def kEnd : C1 := C1.by [.sl 1 []] (lOne cStrs) (fun d => 0 < d.length ∧ d.length ≤ 140737488355328) (fun d => aPos (d.length - 1, (d.getD (d.length - 1) []).length)) (fun _ => [])
theorem ok_end : C1OK Tryz.prog 91 kEnd := C1OK.by (by kernel_rfl) (fun d h => calls_end d h.1 h.2) (fun _ => rfl) (fun _ => rfl)
end Go.Pg
namespace Go.Pg
open Go Go.Proofs
theorem calls_SPlace (ls : Ls) (a b : Int) (h0 : 0 < ls.length) (hs : small ls) (ha : 0 ≤ a ∧ a < 65536) (hb : 0 ≤ b ∧ b < 65536) :
    CallsR Tryz.prog 9 [.sl 1 (ls.map .str), .int .u16 a, .int .u16 b] [] (aPos (a % ls.length, b % ((ls.getD (a % ls.length).toNat []).length + 1))) [] := by
  refine callsR_of (mrg := true) (dyn := []) (CtrOK.nil _) mixed Tryz.func9 rfl (by simp [Tryz.ntmps9]) (by kernel_rfl) ?_
  rw [show Tryz.f9.results.toList = [.cell 6 25] from by kernel_rfl]
  simp (maxSteps := 4000000) only [go_sem, Nat.reduceAdd, reduceCtorEq, Nat.reduceEqDiff, Nat.reduceLeDiff, tk3, tk9, dz9, tk22, tk23, tk25, tz25, dz25, aPos]
  have h1 := hs.1
  have h2 := hs.2 (a % ls.length).toNat
  rw [wrap64 (n := a) (by omega) (by omega), wrap64 (n := b) (by omega) (by omega), Int.tmod_eq_emod_of_nonneg ha.1, wrap64 (by omega) (by omega), Int.tmod_eq_emod_of_nonneg hb.1]
  have h3 := Int.emod_nonneg a (b := ls.length) (by omega)
  have h4 := Int.emod_lt_of_pos a (b := ls.length) (by omega)
  exact ⟨by omega, by omega, by omega, rfl, rfl⟩
def size (ls : Ls) : Int := (ls.map fun s => (s.length : Int) + 1).sum
def total (ls : Ls) : Nat := (ls.map List.length).sum
def light (ls : Ls) : Bool := decide (ls.length ≤ 40) && decide (total ls ≤ 1200) && ls.all fun s => s.all fun b => b != 10
def text (ls : Ls) : Bool := decide (0 < ls.length) && light ls
theorem take_succ_getD {α : Type} (l : List α) (i : Nat) (d : α) (h : i < l.length) : l.take (i + 1) = l.take i ++ [l.getD i d] := by
  rw [List.take_succ_eq_append_getElem h, List.getD_eq_getElem?_getD, List.getElem?_eq_getElem h]; rfl
theorem total_take (ls : Ls) (i : Nat) (h : i < ls.length) : total (ls.take (i + 1)) = total (ls.take i) + (ls.getD i []).length := by
  rw [take_succ_getD ls i [] h]; simp [total]
theorem total_take_le (ls : Ls) (i : Nat) : total (ls.take i) ≤ total ls := by
  have h := List.take_append_drop i ls
  have : total ls = total (ls.take i) + total (ls.drop i) := by
    conv => lhs; rw [← h]
    simp only [total, List.map_append, List.sum_append]
  omega
theorem not_light (ls : Ls) (i : Nat) (h : 1200 < total (ls.take i)) : light ls = false := by
  have := total_take_le ls i
  simp only [light, Bool.and_eq_false_imp, Bool.and_eq_true, decide_eq_true_eq]
  omega
theorem not_light_at (ls : Ls) (i k : Nat) (hi : i < ls.length) (hk : k < (ls.getD i []).length) (h : (ls.getD i []).getD k 0 = 10) : light ls = false := by
  rw [Bool.eq_false_iff]
  intro hl
  simp only [light, Bool.and_eq_true, List.all_eq_true] at hl
  have h1 := hl.2 (ls.getD i []) (by rw [List.getD_eq_getElem?_getD, List.getElem?_eq_getElem hi]; simp) ((ls.getD i []).getD k 0) (by
    generalize ls.getD i [] = s at hk
    rw [List.getD_eq_getElem?_getD, List.getElem?_eq_getElem hk]; simp)
  rw [h] at h1
  cases h1
theorem calls_Light (ls : Ls) (hs : ∀ i, (ls.getD i []).length ≤ 140737488355328) : CallsR Tryz.prog 14 [.sl 1 (ls.map .str)] [] (.bool (light ls)) [] := by
  refine callsR_of (mrg := true) (dyn := []) (CtrOK.nil _) mixed Tryz.func14 rfl (by simp [Tryz.ntmps14]) (by kernel_rfl) ?_
  rw [show Tryz.f14.results.toList = [.tmp 2] from by kernel_rfl]
  simp (maxSteps := 4000000) only [go_sem, reduceCtorEq, Nat.reduceEqDiff, tk22]
  refine ⟨fun h => ?_, fun h0 => ?_⟩
  · symm
    simp only [light, Bool.and_eq_false_imp, Bool.and_eq_true, decide_eq_true_eq]
    omega
  refine loopH_intro (α := Nat) (fun i => ([(0, .sl 1 (ls.map .str)), (2, .bool false), (3, .int .i64 (total (ls.take i))), (4, .int .i64 i)], [])) (fun i => i ≤ ls.length ∧ total (ls.take i) ≤ 1200 ∧ (ls.take i).all (fun s => s.all fun b => b != 10)) (fun i => ls.length - i) 0 ?_ ?_ ?_
  · simp [total]
  · simp (maxSteps := 4000000) only [go_sem, reduceCtorEq, Nat.reduceEqDiff]
    all_goals simp [total]
  · intro i hi
    simp (maxSteps := 4000000) only [go_sem, reduceCtorEq, Nat.reduceEqDiff, tk9, dz9, tk22]
    have h3 := hs i
    have h4 := total_take ls i
    refine ⟨fun h => ⟨by omega, fun h2 => ?_, fun h2 => ?_⟩, fun h => ?_⟩
    · rw [wrap64 (by omega) (by omega)] at h2
      symm
      exact not_light ls (i + 1) (by omega)
    · rw [wrap64 (by omega) (by omega)] at h2
      refine loopH_intro (α := Nat) (fun k => ([(0, .sl 1 (ls.map .str)), (2, .bool false), (3, .int .i64 (total (ls.take (i + 1)))), (4, .int .i64 i), (5, .int .i64 k)], [])) (fun k => k ≤ (ls.getD i []).length ∧ ((ls.getD i []).take k).all (fun b => b != 10)) (fun k => (ls.getD i []).length - k) 0 ?_ ?_ ?_
      · simp
      · simp (maxSteps := 4000000) only [go_sem, reduceCtorEq, Nat.reduceEqDiff]
        rw [wrap64 (by omega) (by omega)]
        omega
      · intro k hk
        simp (maxSteps := 4000000) only [go_sem, reduceCtorEq, Nat.reduceEqDiff, tk9, dz9, tk22]
        refine ⟨by omega, fun h5 => ⟨by omega, by omega, fun h6 => ?_, fun h6 => ⟨k + 1, ⟨by omega, ?_⟩, by omega, by rw [wrap64 (by omega) (by omega)]; omega⟩⟩, fun h5 => ⟨i + 1, ⟨by omega, by omega, ?_⟩, by omega, rfl, by rw [wrap64 (by omega) (by omega)]; omega⟩⟩
        · symm
          refine not_light_at ls i k (by omega) (by omega) ?_
          have h7 : ((ls.getD i []).getD k 0).toNat = 10 := by have := eq_of_beq h6; omega
          exact UInt8.toNat_inj.1 h7
        · rw [take_succ_getD _ k 0 (by omega), List.all_append, hk.2]
          simp only [List.all_cons, List.all_nil, Bool.and_true, Bool.true_and, bne_iff_ne, ne_eq]
          intro h7
          rw [h7] at h6
          exact absurd h6 (by decide)
        · have h8 : k = (ls.getD i []).length := by omega
          have h9 := hk.2
          rw [h8, List.take_length] at h9
          rw [take_succ_getD _ i [] (by omega), List.all_append, hi.2.2]
          simp only [List.all_cons, List.all_nil, h9, Bool.and_self]
    · have : i = ls.length := by omega
      subst this
      rw [List.take_length] at hi
      symm
      have h1 : ls.length ≤ 40 := by omega
      simp [light, hi, h1]
def kLight : C1 := C1.by [.sl 1 []] (lOne cStrs) (fun d => ∀ i, (d.getD i []).length ≤ 140737488355328) (fun d => .bool (light d)) (fun _ => [])
theorem ok_Light : C1OK Tryz.prog 14 kLight := C1OK.by (by kernel_rfl) (fun d h => calls_Light d h) (fun _ => rfl) (fun _ => rfl)
theorem calls_Text (ls : Ls) (hs : ∀ i, (ls.getD i []).length ≤ 140737488355328) : CallsR Tryz.prog 5 [.sl 1 (ls.map .str)] [] (.bool (text ls)) [] := by
  refine callsR_of (mrg := true) (dyn := []) (CtrOK.cons ok_Light (CtrOK.nil _)) mixed Tryz.func5 rfl (by simp [Tryz.ntmps5]) (by kernel_rfl) ?_
  rw [show Tryz.f5.results.toList = [.tmp 2] from by kernel_rfl]
  simp (maxSteps := 4000000) only [go_sem, reduceCtorEq, Nat.reduceEqDiff, tk22, kLight]
  refine ⟨fun h => ⟨h, hs⟩, ?_⟩
  rw [text]
  congr 1
  by_cases h : 0 < ls.length <;> simp [h]
def kText : C1 := C1.by [.sl 1 []] (lOne cStrs) (fun d => ∀ i, (d.getD i []).length ≤ 140737488355328) (fun d => .bool (text d)) (fun _ => [])
theorem ok_Text : C1OK Tryz.prog 5 kText := C1OK.by (by kernel_rfl) (fun d h => calls_Text d h) (fun _ => rfl) (fun _ => rfl)
/-- What lines that may be asked are. -/
theorem few_of_text {ls : Ls} (h : text ls = true) : 0 < ls.length ∧ ls.length ≤ 40 ∧ (∀ i, (ls.getD i []).length ≤ 1200) := by
  simp only [text, light, Bool.and_eq_true, decide_eq_true_eq] at h
  refine ⟨h.1, h.2.1.1, fun i => ?_⟩
  by_cases hi : i < ls.length
  · have h1 := total_take ls i hi
    have h2 := total_take_le ls (i + 1)
    omega
  · simp [List.getD_eq_getElem?_getD, List.getElem?_eq_none (Nat.le_of_not_lt hi)]
end Go.Pg
namespace Go.Pg
open Go Go.Proofs

def isBehind (p : Int × Int) (same : Bool) (q : Int × Int) : Bool := less p q || (same && (q.1 == p.1 && q.2 == p.2))
def behind (l : List (Int × Int)) (p : Int × Int) (same : Bool) : List (Int × Int) := l.filter (isBehind p same)
def ahead (l : List (Int × Int)) (p : Int × Int) : List (Int × Int) := l.reverse.filter (fun q => less q p)

theorem filter_take {α : Type} (g : α → Bool) (l : List α) (i : Nat) (d : α) (h : i < l.length) : (l.take (i + 1)).filter g = if g (l.getD i d) = true then (l.take i).filter g ++ [l.getD i d] else (l.take i).filter g := by
  rw [take_succ_getD l i d h, List.filter_append]
  generalize l.getD i d = y
  split
  · next h => simp [h]
  · next h => simp [h]

theorem pureB_posL (l : List (Int × Int)) : (l.map aPos).all AV.pureB = true := by simp [aPos, AV.pureB, AV.cells, AV.pureLeaf]
theorem leafy_posL (l : List (Int × Int)) : (l.map aPos).all AV.leafy = true := by simp [aPos, AV.leafy, AV.cells, AV.leaf]
theorem app1_pos (l : List (Int × Int)) (q : Int × Int) : l.map aPos ++ [.agg [.int .i64 q.1, .int .i64 q.2]] = (l ++ [q]).map aPos := by simp [aPos]

set_option maxHeartbeats 4000000 in
theorem calls_behind (l : List (Int × Int)) (p : Int × Int) (same : Bool) (hb : l.length ≤ 1099511627776) : CallsR Tryz.prog 88 [.sl 2 (l.map aPos), aPos p, .bool same] [] (.sl 2 ((behind l p same).map aPos)) [] := by
  obtain ⟨p1, p2⟩ := p
  refine callsR_of (mrg := true) (dyn := []) (CtrOK.cons ok_RLess (CtrOK.nil _)) mixed Tryz.func88 rfl (by simp [Tryz.ntmps88]) (by kernel_rfl) ?_
  rw [show Tryz.f88.results.toList = [.tmp 6] from by kernel_rfl]
  simp (maxSteps := 4000000) only [go_sem, Nat.reduceAdd, reduceCtorEq, Nat.reduceEqDiff, aPos, kLess]
  refine loopH_intro (α := Nat × List (Int × Int)) (fun x => ([(0, .sl 2 (l.map aPos)), (2, .bool same), (4, .ptr 0 2 1 0 0), (6, .nls), (7, .own 1 2 x.2.length), (8, .int .i64 x.1)], [.arr 25 2 [.agg [.int .i64 p1, .int .i64 p2]], .arr 25 2 (x.2.map aPos)]))
    (fun x => x.1 ≤ l.length ∧ x.2 = (l.take x.1).filter (isBehind (p1, p2) same)) (fun x => l.length - x.1) (0, []) ⟨by simp, by simp⟩ ?_ ?_
  · simp (maxSteps := 4000000) only [go_sem, reduceCtorEq, Nat.reduceEqDiff]
    exact ⟨rfl, subX_eq rfl rfl⟩
  · intro x hx
    obtain ⟨i, out⟩ := x
    simp only at hx
    obtain ⟨hx1, hx2⟩ := hx
    have hol : out.length ≤ i := by rw [hx2]; exact Nat.le_trans (List.length_filter_le _ _) (by rw [List.length_take]; omega)
    by_cases hi : i < l.length
    · have hct : decide ((i : Int) < (l.length : Int)) = true := decide_eq_true (by omega)
      have hf := filter_take (isBehind (p1, p2) same) l i (0, 0) hi
      simp (maxSteps := 4000000) only [go_sem, Nat.reduceAdd, reduceCtorEq, Nat.reduceEqDiff, Nat.reducePow, Nat.reduceLeDiff, tk25, dz25, eb25, eq25, tk37, aPos, kLess, getD_pos, app1_pos, hct]
      refine ⟨by omega, fun h => ⟨h, by omega, by omega⟩, fun h => ⟨h, fun h2 => by rw [h, h2]; rfl⟩, fun h => ?_, fun h => ?_⟩
      · rw [if_pos (show isBehind (p1, p2) same (l.getD i (0, 0)) = true from h)] at hf
        exact ⟨by omega, ⟨by decide, by omega⟩, (i + 1, out ++ [l.getD i (0, 0)]), ⟨by show i + 1 ≤ _; omega, by rw [hf, hx2]⟩, by show _ - (i + 1) < _; omega, rfl, ⟨subX_eq rfl rfl, subX_eq rfl (pureB_posL _)⟩, by simp, by rw [wrap64 (by omega) (by omega)]; rfl⟩
      · rw [if_neg (show ¬ isBehind (p1, p2) same (l.getD i (0, 0)) = true from by rw [Bool.not_eq_true]; exact h)] at hf
        exact ⟨(i + 1, out), ⟨by show i + 1 ≤ _; omega, by rw [hf, hx2]⟩, by show _ - (i + 1) < _; omega, rfl, ⟨subX_eq rfl rfl, subX_eq rfl (pureB_posL _)⟩, rfl, by rw [wrap64 (by omega) (by omega)]; rfl⟩
    · have hcf : decide ((i : Int) < (l.length : Int)) = false := decide_eq_false (by omega)
      simp (maxSteps := 4000000) only [go_sem, reduceCtorEq, Nat.reduceEqDiff, tk37, kLess, pureB_posL, hcf]
      rw [hx2, List.take_of_length_le (by omega)]
      rfl

theorem getD_rev (l : List (Int × Int)) (k : Nat) (d : Int × Int) (h : k < l.length) : l.reverse.getD k d = l.getD (l.length - 1 - k) d := by
  rw [List.getD_eq_getElem?_getD, List.getElem?_reverse h, ← List.getD_eq_getElem?_getD]

set_option maxHeartbeats 4000000 in
theorem calls_ahead (l : List (Int × Int)) (p : Int × Int) (hb : l.length ≤ 1099511627776) : CallsR Tryz.prog 93 [.sl 2 (l.map aPos), aPos p] [] (.sl 2 ((ahead l p).map aPos)) [] := by
  obtain ⟨p1, p2⟩ := p
  refine callsR_of (mrg := true) (dyn := []) (CtrOK.cons ok_RLess (CtrOK.nil _)) mixed Tryz.func93 rfl (by simp [Tryz.ntmps93]) (by kernel_rfl) ?_
  rw [show Tryz.f93.results.toList = [.tmp 4] from by kernel_rfl]
  simp (maxSteps := 4000000) only [go_sem, Nat.reduceAdd, reduceCtorEq, Nat.reduceEqDiff, tk37, aPos, kLess]
  have w0 : IntKind.i64.wrap ((l.length : Int) - 1) = (l.length : Int) - 1 := wrap64 (by omega) (by omega)
  rw [w0]
  refine loopH_intro (α := Nat × List (Int × Int)) (fun x => ([(0, .sl 2 (l.map aPos)), (3, .ptr 0 2 1 0 0), (4, .nls), (5, .own 1 2 x.2.length), (6, .int .i64 ((l.length : Int) - 1 - x.1))], [.arr 25 2 [.agg [.int .i64 p1, .int .i64 p2]], .arr 25 2 (x.2.map aPos)]))
    (fun x => x.1 ≤ l.length ∧ x.2 = (l.reverse.take x.1).filter (fun q => less q (p1, p2))) (fun x => l.length - x.1) (0, []) ⟨by simp, by simp⟩ ?_ ?_
  · simp (maxSteps := 4000000) only [go_sem, reduceCtorEq, Nat.reduceEqDiff]
    exact ⟨rfl, subX_eq rfl rfl, by omega⟩
  · intro x hx
    obtain ⟨i, out⟩ := x
    simp only at hx
    obtain ⟨hx1, hx2⟩ := hx
    have hol : out.length ≤ i := by rw [hx2]; exact Nat.le_trans (List.length_filter_le _ _) (by rw [List.length_take]; omega)
    by_cases hi : i < l.length
    · have hct : decide ((l.length : Int) - 1 - (i : Int) ≥ 0) = true := decide_eq_true (by omega)
      have hf := filter_take (fun q => less q (p1, p2)) l.reverse i (0, 0) (by simpa using hi)
      rw [getD_rev l i (0, 0) hi] at hf
      have htn : ((l.length : Int) - 1 - (i : Int)).toNat = l.length - 1 - i := by omega
      simp (maxSteps := 4000000) only [go_sem, Nat.reduceAdd, reduceCtorEq, Nat.reduceEqDiff, Nat.reducePow, Nat.reduceLeDiff, tk25, dz25, eb25, tk37, aPos, kLess, getD_pos, app1_pos, hct, htn]
      refine ⟨by omega, fun h => ?_, fun h => ?_⟩
      · rw [if_pos (show less (l.getD (l.length - 1 - i) (0, 0)) (p1, p2) = true from h)] at hf
        exact ⟨by omega, ⟨by decide, by omega⟩, (i + 1, out ++ [l.getD (l.length - 1 - i) (0, 0)]), ⟨by show i + 1 ≤ _; omega, by rw [hf, hx2]⟩, by show _ - (i + 1) < _; omega, rfl, ⟨subX_eq rfl rfl, subX_eq rfl (pureB_posL _)⟩, by simp, by rw [wrap64 (by omega) (by omega)]; show (l.length : Int) - 1 - i - 1 = (l.length : Int) - 1 - ((i + 1 : Nat) : Int); omega⟩
      · rw [if_neg (show ¬ less (l.getD (l.length - 1 - i) (0, 0)) (p1, p2) = true from by rw [Bool.not_eq_true]; exact h)] at hf
        exact ⟨(i + 1, out), ⟨by show i + 1 ≤ _; omega, by rw [hf, hx2]⟩, by show _ - (i + 1) < _; omega, rfl, ⟨subX_eq rfl rfl, subX_eq rfl (pureB_posL _)⟩, rfl, by rw [wrap64 (by omega) (by omega)]; show (l.length : Int) - 1 - i - 1 = (l.length : Int) - 1 - ((i + 1 : Nat) : Int); omega⟩
    · have hcf : decide ((l.length : Int) - 1 - (i : Int) ≥ 0) = false := decide_eq_false (by omega)
      simp (maxSteps := 4000000) only [go_sem, reduceCtorEq, Nat.reduceEqDiff, kLess, pureB_posL, hcf]
      rw [hx2, List.take_of_length_le (by simp; omega)]
      rfl
end Go.Pg
namespace Go.Pg
open Go Go.Proofs

/-- So many lines, so long. -/
def fits (n b : Nat) (ls : Ls) : Prop := ls.length ≤ n ∧ ∀ s ∈ ls, s.length ≤ b
theorem fits_getD {n b : Nat} {ls : Ls} (h : fits n b ls) (i : Nat) : (ls.getD i []).length ≤ b := by
  rw [List.getD_eq_getElem?_getD]
  cases e : ls[i]? with
  | none => simp
  | some s => exact h.2 s (List.mem_of_getElem? e)
theorem fits_small {n b : Nat} {ls : Ls} (h : fits n b ls) (hn : n ≤ 1099511627776) (hb : b ≤ 1099511627776) : small ls :=
  ⟨Nat.le_trans h.1 hn, fun i => Nat.le_trans (fits_getD h i) hb⟩
theorem fits_mono {n b n' b' : Nat} {ls : Ls} (h : fits n b ls) (hn : n ≤ n') (hb : b ≤ b') : fits n' b' ls :=
  ⟨Nat.le_trans h.1 hn, fun s hs => Nat.le_trans (h.2 s hs) hb⟩
/-- A place by two numbers. -/
def splace (ls : Ls) (a b : Int) : Int × Int := (a % ls.length, b % ((ls.getD (a % ls.length).toNat []).length + 1))
def kSPlace : C1 := C1.by [.sl 1 [], .id, .id] (lCons cStrs (lCons (cInt .u16) (lOne (cInt .u16)))) (fun d => 0 < d.1.length ∧ small d.1 ∧ (0 ≤ d.2.1 ∧ d.2.1 < 65536) ∧ 0 ≤ d.2.2 ∧ d.2.2 < 65536)
  (fun d => aPos (splace d.1 d.2.1 d.2.2)) (fun _ => [])
theorem ok_SPlace : C1OK Tryz.prog 9 kSPlace := C1OK.by (by kernel_rfl) (fun d h => calls_SPlace d.1 d.2.1 d.2.2 h.1 h.2.1 h.2.2.1 h.2.2.2) (fun _ => rfl) (fun _ => rfl)
theorem fits_text {ls : Ls} (h : text ls = true) : fits 40 1200 ls := by
  obtain ⟨h1, h2, h3⟩ := few_of_text h
  refine ⟨h2, fun s hs => ?_⟩
  obtain ⟨i, hi, rfl⟩ := List.getElem_of_mem hs
  have := h3 i
  rw [List.getD_eq_getElem?_getD, List.getElem?_eq_getElem hi] at this
  exact this
end Go.Pg
namespace Go.Pg
open Go Go.Proofs

/-- The bytes of a line that are asked. -/
def marksIn (g : List UInt8 → Nat → Bool) (l : Nat) (s : List UInt8) (k : Nat) : List (Int × Int) := ((List.range k).filter (g s)).map fun i : Nat => ((l : Int), (i : Int))
def lineMarks (e : Bool) (g : List UInt8 → Nat → Bool) (l : Nat) (s : List UInt8) : List (Int × Int) := (if (e && s == []) = true then [((l : Int), 0)] else []) ++ marksIn g l s s.length
def marksTo (e : Bool) (g : List UInt8 → Nat → Bool) (ls : Ls) (n : Nat) : List (Int × Int) := (List.range n).flatMap fun l => lineMarks e g l (ls.getD l [])

def startB (big : Bool) (s : List UInt8) (i : Nat) : Bool := (cls (s.getD i 0).toNat big != 0) && (((i : Int) == 0) || cls (s.getD (i - 1) 0).toNat big != cls (s.getD i 0).toNat big)
def endB (big : Bool) (s : List UInt8) (i : Nat) : Bool := (cls (s.getD i 0).toNat big != 0) && (((i : Int) == (s.length : Int) - 1) || cls (s.getD (i + 1) 0).toNat big != cls (s.getD i 0).toNat big)

theorem marksIn_len (g : List UInt8 → Nat → Bool) (l : Nat) (s : List UInt8) (k : Nat) : (marksIn g l s k).length ≤ k := by
  unfold marksIn
  rw [List.length_map]
  exact Nat.le_trans (List.length_filter_le _ _) (by simp)
theorem marksIn_succ (g : List UInt8 → Nat → Bool) (l : Nat) (s : List UInt8) (k : Nat) : marksIn g l s (k + 1) = if g s k = true then marksIn g l s k ++ [((l : Int), (k : Int))] else marksIn g l s k := by
  unfold marksIn
  rw [List.range_succ, List.filter_append]
  split
  · next h => simp [h]
  · next h => simp [h]
theorem marksTo_succ (e : Bool) (g : List UInt8 → Nat → Bool) (ls : Ls) (n : Nat) : marksTo e g ls (n + 1) = marksTo e g ls n ++ lineMarks e g n (ls.getD n []) := by
  unfold marksTo
  rw [List.range_succ, List.flatMap_append]
  simp
theorem marksTo_len (e : Bool) (g : List UInt8 → Nat → Bool) (ls : Ls) (B : Nat) (h : ∀ i, (ls.getD i []).length ≤ B) (n : Nat) : (marksTo e g ls n).length ≤ n * (B + 1) := by
  induction n with
  | zero => simp [marksTo]
  | succ n ih =>
    rw [marksTo_succ, List.length_append, Nat.add_mul, Nat.one_mul]
    have h1 := marksIn_len g n (ls.getD n []) (ls.getD n []).length
    have h2 := h n
    have h3 : (lineMarks e g n (ls.getD n [])).length ≤ B + 1 := by
      unfold lineMarks
      split
      · next h => 
        have : ls.getD n [] = [] := by simp only [Bool.and_eq_true, beq_iff_eq] at h; exact h.2
        rw [this]; simp [marksIn]
      · rw [List.nil_append]; omega
    omega
theorem app1_pos2 (l : List (Int × Int)) (a b : Int) : l.map aPos ++ [.agg [.int .i64 a, .int .i64 b]] = (l ++ [(a, b)]).map aPos := by simp [aPos]
end Go.Pg
namespace Go.Pg
open Go Go.Proofs

/-! ### Plain: which mark is the next one -/
def lineLead (e : Bool) (s : List UInt8) : Nat := if (e && s == []) = true then 1 else 0
theorem lineMarks_len (e : Bool) (g : List UInt8 → Nat → Bool) (l : Nat) (s : List UInt8) : (lineMarks e g l s).length = lineLead e s + (marksIn g l s s.length).length := by
  unfold lineMarks lineLead
  split <;> simp [Nat.add_comm]

theorem marksTo_get (e : Bool) (g : List UInt8 → Nat → Bool) (ls : Ls) (i : Nat) : ∀ (n : Nat), i < n → ∀ (j : Nat) (p : Int × Int), (lineMarks e g i (ls.getD i []))[j]? = some p → (marksTo e g ls n)[(marksTo e g ls i).length + j]? = some p := by
  intro n
  induction n with
  | zero => intro h; omega
  | succ n ih =>
    intro h j p hp
    rw [marksTo_succ]
    by_cases he : i = n
    · subst he
      rw [List.getElem?_append_right (by omega), show (marksTo e g ls i).length + j - (marksTo e g ls i).length = j by omega]
      exact hp
    · have h1 := ih (by omega) j p hp
      rw [List.getElem?_append_left (List.getElem?_eq_some_iff.1 h1).1]
      exact h1

theorem marksIn_get (g : List UInt8 → Nat → Bool) (l : Nat) (s : List UInt8) (k : Nat) (hg : g s k = true) : ∀ (n : Nat), k < n → (marksIn g l s n)[(marksIn g l s k).length]? = some ((l : Int), (k : Int)) := by
  intro n
  induction n with
  | zero => intro h; omega
  | succ n ih =>
    intro h
    rw [marksIn_succ]
    by_cases he : k = n
    · subst he
      rw [if_pos hg, List.getElem?_append_right (by omega), Nat.sub_self]
      rfl
    · have h1 := ih (by omega)
      split
      · rw [List.getElem?_append_left (List.getElem?_eq_some_iff.1 h1).1]; exact h1
      · exact h1

theorem mark_lead (e : Bool) (g : List UInt8 → Nat → Bool) (ls : Ls) (i : Nat) (hi : i < ls.length) (h : (e && ls.getD i [] == []) = true) : (marksTo e g ls ls.length)[(marksTo e g ls i).length]? = some ((i : Int), 0) := by
  refine marksTo_get e g ls i ls.length hi 0 _ ?_
  unfold lineMarks
  rw [if_pos h]
  rfl

theorem mark_in (e : Bool) (g : List UInt8 → Nat → Bool) (ls : Ls) (i k : Nat) (hi : i < ls.length) (hk : k < (ls.getD i []).length) (h : g (ls.getD i []) k = true) :
    (marksTo e g ls ls.length)[(marksTo e g ls i).length + lineLead e (ls.getD i []) + (marksIn g i (ls.getD i []) k).length]? = some ((i : Int), (k : Int)) := by
  rw [Nat.add_assoc]
  refine marksTo_get e g ls i ls.length hi _ _ ?_
  have h1 := marksIn_get g i (ls.getD i []) k h (ls.getD i []).length hk
  unfold lineMarks lineLead
  split
  · rw [List.getElem?_append_right (by simp), show 1 + (marksIn g i (ls.getD i []) k).length - [((i : Int), (0 : Int))].length = (marksIn g i (ls.getD i []) k).length by simp]
    exact h1
  · rw [List.nil_append, Nat.zero_add]
    exact h1

/-! ### What is asked of a byte -/
abbrev lAsk : CdL (List UInt8 × Int × Bool) := lCons cStr (lCons (cInt .i64) (lOne (cRp (lOne cBool))))
def kAsk (g : Bool → List UInt8 → Nat → Bool) : C1 := C1.by [.id, .id, .id] lAsk (fun d => 0 ≤ d.2.1 ∧ d.2.1 < d.1.length ∧ d.1.length ≤ 140737488355328) (fun d => .bool (g d.2.2 d.1 d.2.1.toNat)) (fun _ => [])

set_option maxHeartbeats 4000000 in
theorem calls_askS (s : List UInt8) (i : Int) (big : Bool) (h0 : 0 ≤ i) (h1 : i < s.length) (h2 : s.length ≤ 140737488355328) : CallsR Tryz.prog 123 [.str s, .int .i64 i, .rp [.bool big]] [] (.bool (startB big s i.toNat)) [] := by
  refine callsR_of (mrg := true) (dyn := []) (CtrOK.cons ok_Of (CtrOK.nil _)) mixed Tryz.func123 rfl (by simp [Tryz.ntmps123]) (by kernel_rfl) ?_
  rw [show Tryz.f123.results.toList = [.tmp 5] from by kernel_rfl]
  obtain ⟨k, rfl⟩ := Int.eq_ofNat_of_zero_le h0
  have hk1 : (IntKind.i64.wrap ((k : Int) - 1)) = (k : Int) - 1 := wrap64 (by omega) (by omega)
  have hk2 : ((k : Int) - 1).toNat = k - 1 := by omega
  simp (maxSteps := 4000000) only [go_sem, Nat.reduceAdd, reduceCtorEq, Nat.reduceEqDiff, tk4, tk9, kOf, hk1, hk2]
  refine ⟨⟨by omega, by omega⟩, fun h => ⟨h, ?_⟩, fun h => ⟨h, fun h2 => by rw [h, h2]; rfl⟩, rfl⟩
  have h' := h
  simp only [Bool.and_eq_true, Bool.not_eq_true', beq_eq_false_iff_ne, ne_eq] at h'
  exact ⟨by omega, by omega⟩

set_option maxHeartbeats 4000000 in
theorem calls_askE (s : List UInt8) (i : Int) (big : Bool) (h0 : 0 ≤ i) (h1 : i < s.length) (h2 : s.length ≤ 140737488355328) : CallsR Tryz.prog 124 [.str s, .int .i64 i, .rp [.bool big]] [] (.bool (endB big s i.toNat)) [] := by
  refine callsR_of (mrg := true) (dyn := []) (CtrOK.cons ok_Of (CtrOK.nil _)) mixed Tryz.func124 rfl (by simp [Tryz.ntmps124]) (by kernel_rfl) ?_
  rw [show Tryz.f124.results.toList = [.tmp 5] from by kernel_rfl]
  obtain ⟨k, rfl⟩ := Int.eq_ofNat_of_zero_le h0
  have hk3 : (IntKind.i64.wrap ((k : Int) + 1)) = ((k + 1 : Nat) : Int) := by rw [wrap64 (by omega) (by omega)]; omega
  have hk4 : IntKind.i64.wrap ((s.length : Int) - 1) = (s.length : Int) - 1 := wrap64 (by omega) (by omega)
  simp (maxSteps := 4000000) only [go_sem, Nat.reduceAdd, reduceCtorEq, Nat.reduceEqDiff, tk4, tk9, kOf, hk3, hk4]
  refine ⟨⟨by omega, by omega⟩, fun h => ⟨h, ?_⟩, fun h => ⟨h, fun h2 => by rw [h, h2]; rfl⟩, rfl⟩
  have h' := h
  simp only [Bool.and_eq_true, Bool.not_eq_true', beq_eq_false_iff_ne, ne_eq] at h'
  exact ⟨by omega, by omega⟩

set_option maxRecDepth 20000 in
set_option maxHeartbeats 4000000 in
theorem it_at (ls : Ls) (e : Bool) (fid : Nat) (big : Bool) (g : Bool → List UInt8 → Nat → Bool) (hf : fits 65536 65536 ls) (hk : C1OK Tryz.prog fid (kAsk g)) :
    ItR Tryz.prog 134 [.rp [.sl 1 (ls.map .str)], .rp [.bool e], .rp [.fn fid [.rp [.bool big]]]] (Tell.seq ((marksTo e (g big) ls ls.length).map fun p => [aPos p])) := by
  refine itR_of (mrg := true) (dyn := []) (CtrOK.cons hk (CtrOK.nil _)) mixed Tryz.func134 rfl (by simp [Tryz.ntmps134]) (by kernel_rfl) (by kernel_rfl) ?_ ?_
  · intro x hx
    obtain ⟨p, _, rfl⟩ := List.mem_map.1 hx
    rfl
  intro l
  have hll := hf.1
  have hls := fits_getD hf
  simp (maxSteps := 4000000) only [go_sem, ↓wpY_H, ↓wpYH_seq, ↓wpYH_block, ↓wpYH_loop, ↓wpYH_region0, regYH_none, runYH_nil, runYH_cons, ↓oneYH_eq, yarg, yselH_none, ↓thenY_normal, Nat.reduceAdd, reduceCtorEq, Nat.reduceEqDiff, tk22, kAsk]
  refine loopYH_intro (α := Nat) (fun i => (some (marksTo e (g big) ls i).length, [(0, .yld l), (1, .rp [.sl 1 (ls.map .str)]), (2, .rp [.bool e]), (3, .rp [.fn fid [.rp [.bool big]]]), (8, .sl 1 (ls.map .str)), (9, .int .i64 ls.length), (10, .int .i64 i)], []))
    (fun i => i ≤ ls.length) (fun i => ls.length - i) 0 (by omega) (by simp [marksTo]) ?_ ?_
  · simp (maxSteps := 4000000) only [go_sem, reduceCtorEq, Nat.reduceEqDiff]
    all_goals rfl
  intro i hi
  by_cases hlt : i < ls.length
  · have hct : decide ((i : Int) < (ls.length : Int)) = true := decide_eq_true (by omega)
    have hsl := hls i
    have hts := marksTo_succ e (g big) ls i
    have hln := lineMarks_len e (g big) i (ls.getD i [])
    cases e with
    | false =>
      have hl : lineLead false (ls.getD i []) = 0 := rfl
      simp (maxSteps := 4000000) only [go_sem, ↓wpY_H, ↓wpYH_skip, ↓wpYH_seq, ↓wpYH_cond, ↓wpYH_block, ↓wpYH_loop, ↓wpYH_region0, regYH_none, runYH_nil, runYH_cons, ↓oneYH_eq, yarg, yselH_none, ↓thenY_normal, reduceCtorEq, Nat.reduceEqDiff, tk4, tk9, dz9, tk22, kAsk, hct]
      refine ⟨by omega, ?_⟩
      refine loopYH_intro (α := Nat) (fun k => (some ((marksTo false (g big) ls i).length + lineLead false (ls.getD i []) + (marksIn (g big) i (ls.getD i []) k).length), [(0, .yld l), (1, .rp [.sl 1 (ls.map .str)]), (2, .rp [.bool false]), (3, .rp [.fn fid [.rp [.bool big]]]), (5, .int .i64 i), (6, .str (ls.getD i [])), (8, .sl 1 (ls.map .str)), (9, .int .i64 ls.length), (10, .int .i64 i), (28, .int .i64 (ls.getD i []).length), (29, .int .i64 k)], []))
        (fun k => k ≤ (ls.getD i []).length) (fun k => (ls.getD i []).length - k) 0 (by omega) (by rw [hl]; simp [marksIn]) ?_ ?_
      · simp (maxSteps := 4000000) only [go_sem, reduceCtorEq, Nat.reduceEqDiff]
        all_goals rfl
      intro k hk1
      have hm1 := marksIn_succ (g big) i (ls.getD i []) k
      by_cases hk2 : k < (ls.getD i []).length
      · have hct2 : decide ((k : Int) < ((ls.getD i []).length : Int)) = true := decide_eq_true (by omega)
        cases hg : g big (ls.getD i []) k with
        | true =>
          rw [if_pos hg] at hm1
          have hy := mark_in false (g big) ls i k hlt hk2 hg
          simp (maxSteps := 4000000) only [go_sem, ↓wpY_H, ↓wpYH_skip, ↓wpYH_ret, ↓wpYH_seq, ↓wpYH_cond, ↓wpYH_block, ↓wpYH_region0, regYH_none, runYH_nil, runYH_cons, ↓oneYH_eq, yarg, yselH_none, yselH_some, yieldH_some, ↓thenY_normal, ↓thenY_ret, ↓blockY_normal, ↓blockY_ret, ↓endY_ret, endT_none, Nat.reduceAdd, reduceCtorEq, Nat.reduceEqDiff, Nat.reduceLeDiff, tk25, tz25, tk117, kAsk, eq_self, hct2, hg, List.getElem?_map, hy]
          exact ⟨⟨by omega, by omega, by omega⟩, rfl, rfl, k + 1, by omega, by omega, by rw [hm1, List.length_append]; rfl, by rw [wrap64 (by omega) (by omega)]; rfl⟩
        | false =>
          rw [if_neg (by rw [hg]; simp)] at hm1
          simp (maxSteps := 4000000) only [go_sem, ↓wpY_H, ↓wpYH_skip, ↓wpYH_seq, ↓wpYH_cond, ↓wpYH_block, ↓wpYH_region0, regYH_none, runYH_nil, runYH_cons, ↓oneYH_eq, yarg, yselH_none, ↓thenY_normal, ↓blockY_normal, reduceCtorEq, Nat.reduceEqDiff, tk117, kAsk, eq_self, hct2, hg]
          exact ⟨⟨by omega, by omega, by omega⟩, k + 1, by omega, by omega, by rw [hm1], by rw [wrap64 (by omega) (by omega)]; rfl⟩
      · have hcf2 : decide ((k : Int) < ((ls.getD i []).length : Int)) = false := decide_eq_false (by omega)
        have hke : k = (ls.getD i []).length := by omega
        subst hke
        simp (maxSteps := 4000000) only [go_sem, ↓wpY_H, ↓wpYH_exit, ↓wpYH_seq, ↓wpYH_cond, ↓wpYH_region0, regYH_none, runYH_nil, runYH_cons, ↓oneYH_eq, yarg, yselH_none, ↓thenY_normal, ↓thenY_exit, ↓blockY_normal, ↓blockY_exit, ↓endY_normal, endT_some, reduceCtorEq, Nat.reduceEqDiff, kAsk, hcf2]
        exact ⟨i + 1, by omega, by omega, by rw [hts, List.length_append, hln]; omega, by rw [wrap64 (by omega) (by omega)]; rfl⟩
    | true =>
      cases hse : (ls.getD i [] == []) with
      | true =>
        have hl : lineLead true (ls.getD i []) = 1 := by unfold lineLead; rw [if_pos (by rw [hse]; rfl)]
        have hy0 := mark_lead true (g big) ls i hlt (by rw [hse]; rfl)
        simp (maxSteps := 4000000) only [go_sem, ↓wpY_H, ↓wpYH_skip, ↓wpYH_ret, ↓wpYH_seq, ↓wpYH_cond, ↓wpYH_block, ↓wpYH_loop, ↓wpYH_region0, regYH_none, runYH_nil, runYH_cons, ↓oneYH_eq, yarg, yselH_none, yselH_some, yieldH_some, ↓thenY_normal, ↓thenY_ret, ↓blockY_ret, ↓endY_ret, endT_none, Nat.reduceAdd, reduceCtorEq, Nat.reduceEqDiff, Nat.reduceLeDiff, tk4, tk9, dz9, tk22, tk25, tz25, kAsk, hct, hse, List.getElem?_map, hy0]
        refine ⟨by omega, rfl, rfl, ?_⟩
        refine loopYH_intro (α := Nat) (fun k => (some ((marksTo true (g big) ls i).length + lineLead true (ls.getD i []) + (marksIn (g big) i (ls.getD i []) k).length), [(0, .yld l), (1, .rp [.sl 1 (ls.map .str)]), (2, .rp [.bool true]), (3, .rp [.fn fid [.rp [.bool big]]]), (5, .int .i64 i), (6, .str (ls.getD i [])), (8, .sl 1 (ls.map .str)), (9, .int .i64 ls.length), (10, .int .i64 i), (28, .int .i64 (ls.getD i []).length), (29, .int .i64 k)], []))
          (fun k => k ≤ (ls.getD i []).length) (fun k => (ls.getD i []).length - k) 0 (by omega) (by rw [hl]; simp [marksIn]) ?_ ?_
        · simp (maxSteps := 4000000) only [go_sem, reduceCtorEq, Nat.reduceEqDiff]
          all_goals rfl
        intro k hk1
        have hm1 := marksIn_succ (g big) i (ls.getD i []) k
        by_cases hk2 : k < (ls.getD i []).length
        · have hct2 : decide ((k : Int) < ((ls.getD i []).length : Int)) = true := decide_eq_true (by omega)
          cases hg : g big (ls.getD i []) k with
          | true =>
            rw [if_pos hg] at hm1
            have hy := mark_in true (g big) ls i k hlt hk2 hg
            simp (maxSteps := 4000000) only [go_sem, ↓wpY_H, ↓wpYH_skip, ↓wpYH_ret, ↓wpYH_seq, ↓wpYH_cond, ↓wpYH_block, ↓wpYH_region0, regYH_none, runYH_nil, runYH_cons, ↓oneYH_eq, yarg, yselH_none, yselH_some, yieldH_some, ↓thenY_normal, ↓thenY_ret, ↓blockY_normal, ↓blockY_ret, ↓endY_ret, endT_none, Nat.reduceAdd, reduceCtorEq, Nat.reduceEqDiff, Nat.reduceLeDiff, tk25, tz25, tk117, kAsk, eq_self, hct2, hg, List.getElem?_map, hy]
            exact ⟨⟨by omega, by omega, by omega⟩, rfl, rfl, k + 1, by omega, by omega, by rw [hm1, List.length_append]; rfl, by rw [wrap64 (by omega) (by omega)]; rfl⟩
          | false =>
            rw [if_neg (by rw [hg]; simp)] at hm1
            simp (maxSteps := 4000000) only [go_sem, ↓wpY_H, ↓wpYH_skip, ↓wpYH_seq, ↓wpYH_cond, ↓wpYH_block, ↓wpYH_region0, regYH_none, runYH_nil, runYH_cons, ↓oneYH_eq, yarg, yselH_none, ↓thenY_normal, ↓blockY_normal, reduceCtorEq, Nat.reduceEqDiff, tk117, kAsk, eq_self, hct2, hg]
            exact ⟨⟨by omega, by omega, by omega⟩, k + 1, by omega, by omega, by rw [hm1], by rw [wrap64 (by omega) (by omega)]; rfl⟩
        · have hcf2 : decide ((k : Int) < ((ls.getD i []).length : Int)) = false := decide_eq_false (by omega)
          have hke : k = (ls.getD i []).length := by omega
          subst hke
          simp (maxSteps := 4000000) only [go_sem, ↓wpY_H, ↓wpYH_exit, ↓wpYH_seq, ↓wpYH_cond, ↓wpYH_region0, regYH_none, runYH_nil, runYH_cons, ↓oneYH_eq, yarg, yselH_none, ↓thenY_normal, ↓thenY_exit, ↓blockY_normal, ↓blockY_exit, ↓endY_normal, endT_some, reduceCtorEq, Nat.reduceEqDiff, kAsk, hcf2]
          exact ⟨i + 1, by omega, by omega, by rw [hts, List.length_append, hln]; omega, by rw [wrap64 (by omega) (by omega)]; rfl⟩
      | false =>
        have hl : lineLead true (ls.getD i []) = 0 := by unfold lineLead; rw [if_neg (by rw [hse]; decide)]
        simp (maxSteps := 4000000) only [go_sem, ↓wpY_H, ↓wpYH_skip, ↓wpYH_seq, ↓wpYH_cond, ↓wpYH_block, ↓wpYH_loop, ↓wpYH_region0, regYH_none, runYH_nil, runYH_cons, ↓oneYH_eq, yarg, yselH_none, ↓thenY_normal, reduceCtorEq, Nat.reduceEqDiff, tk4, tk9, dz9, tk22, kAsk, hct, hse]
        refine ⟨by omega, ?_⟩
        refine loopYH_intro (α := Nat) (fun k => (some ((marksTo true (g big) ls i).length + lineLead true (ls.getD i []) + (marksIn (g big) i (ls.getD i []) k).length), [(0, .yld l), (1, .rp [.sl 1 (ls.map .str)]), (2, .rp [.bool true]), (3, .rp [.fn fid [.rp [.bool big]]]), (5, .int .i64 i), (6, .str (ls.getD i [])), (8, .sl 1 (ls.map .str)), (9, .int .i64 ls.length), (10, .int .i64 i), (28, .int .i64 (ls.getD i []).length), (29, .int .i64 k)], []))
          (fun k => k ≤ (ls.getD i []).length) (fun k => (ls.getD i []).length - k) 0 (by omega) (by rw [hl]; simp [marksIn]) ?_ ?_
        · simp (maxSteps := 4000000) only [go_sem, reduceCtorEq, Nat.reduceEqDiff]
          all_goals rfl
        intro k hk1
        have hm1 := marksIn_succ (g big) i (ls.getD i []) k
        by_cases hk2 : k < (ls.getD i []).length
        · have hct2 : decide ((k : Int) < ((ls.getD i []).length : Int)) = true := decide_eq_true (by omega)
          cases hg : g big (ls.getD i []) k with
          | true =>
            rw [if_pos hg] at hm1
            have hy := mark_in true (g big) ls i k hlt hk2 hg
            simp (maxSteps := 4000000) only [go_sem, ↓wpY_H, ↓wpYH_skip, ↓wpYH_ret, ↓wpYH_seq, ↓wpYH_cond, ↓wpYH_block, ↓wpYH_region0, regYH_none, runYH_nil, runYH_cons, ↓oneYH_eq, yarg, yselH_none, yselH_some, yieldH_some, ↓thenY_normal, ↓thenY_ret, ↓blockY_normal, ↓blockY_ret, ↓endY_ret, endT_none, Nat.reduceAdd, reduceCtorEq, Nat.reduceEqDiff, Nat.reduceLeDiff, tk25, tz25, tk117, kAsk, eq_self, hct2, hg, List.getElem?_map, hy]
            exact ⟨⟨by omega, by omega, by omega⟩, rfl, rfl, k + 1, by omega, by omega, by rw [hm1, List.length_append]; rfl, by rw [wrap64 (by omega) (by omega)]; rfl⟩
          | false =>
            rw [if_neg (by rw [hg]; simp)] at hm1
            simp (maxSteps := 4000000) only [go_sem, ↓wpY_H, ↓wpYH_skip, ↓wpYH_seq, ↓wpYH_cond, ↓wpYH_block, ↓wpYH_region0, regYH_none, runYH_nil, runYH_cons, ↓oneYH_eq, yarg, yselH_none, ↓thenY_normal, ↓blockY_normal, reduceCtorEq, Nat.reduceEqDiff, tk117, kAsk, eq_self, hct2, hg]
            exact ⟨⟨by omega, by omega, by omega⟩, k + 1, by omega, by omega, by rw [hm1], by rw [wrap64 (by omega) (by omega)]; rfl⟩
        · have hcf2 : decide ((k : Int) < ((ls.getD i []).length : Int)) = false := decide_eq_false (by omega)
          have hke : k = (ls.getD i []).length := by omega
          subst hke
          simp (maxSteps := 4000000) only [go_sem, ↓wpY_H, ↓wpYH_exit, ↓wpYH_seq, ↓wpYH_cond, ↓wpYH_region0, regYH_none, runYH_nil, runYH_cons, ↓oneYH_eq, yarg, yselH_none, ↓thenY_normal, ↓thenY_exit, ↓blockY_normal, ↓blockY_exit, ↓endY_normal, endT_some, reduceCtorEq, Nat.reduceEqDiff, kAsk, hcf2]
          exact ⟨i + 1, by omega, by omega, by rw [hts, List.length_append, hln]; omega, by rw [wrap64 (by omega) (by omega)]; rfl⟩
  · have hcf : decide ((i : Int) < (ls.length : Int)) = false := decide_eq_false (by omega)
    have hil : i = ls.length := by omega
    simp (maxSteps := 4000000) only [go_sem, ↓wpY_H, ↓wpYH_exit, ↓wpYH_seq, ↓wpYH_cond, ↓wpYH_region0, regYH_none, runYH_nil, runYH_cons, ↓oneYH_eq, yarg, yselH_none, ↓thenY_normal, ↓thenY_exit, ↓blockY_exit, ↓endY_normal, endT_some, reduceCtorEq, Nat.reduceEqDiff, kAsk, hcf]
    rw [hil]
end Go.Pg
