/- slices.All over ints, over pieces, over places: what they tell. Functions without a body that known() calls. Leaves of known(): slices.Grow of nil, maps.Clone, slices.Clone and slices.Delete of pieces. The names of a map's keys, told in whatever order and sorted: the two calls of known(). -/
import Derived.Test.YtddkekepoimcpaaGreatDoorPgFx0
import Derived.Test.YtddkekepoimcpaaGreatDoorPgYld4
import Derived.Test.YtddkekepoimcpaaGreatDoorPgLst
import Derived.Test.YtddkekepoimcpaaGreatDoorPgHcd
import Derived.Test.YtddkekepoimcpaaGreatDoorPgNd
import Derived.Test.YtddkekepoimcpaaGreatDoorPgBs
import Derived.Test.YtddkekepoimcpaaGreatDoorPgGf
import Derived.Test.YtddkekepoimcpaaGreatDoorProg
import Derived.KernelRfl
import Derived.Test.YtddkekepoimcpaaGreatDoorPgCpy
import Derived.Test.YtddkekepoimcpaaGreatDoorPgNil
import Derived.Test.YtddkekepoimcpaaGreatDoorPgCut
import Derived.Test.YtddkekepoimcpaaGreatDoorPgLib
import Derived.Shelf.Spec.SlicesGrow
import Derived.Shelf.SlMaps.Clone
import Derived.WalkKit
import Derived.Deep.LoopGhost
import Derived.Deep.RegionLaw
import Derived.Lib.Walk
import Derived.Sort.WalkB12
import Derived.Lib.SliceRun
import Derived.Test.YtddkekepoimcpaaGreatDoorPgNd2
set_option linter.unusedVariables false
set_option linter.unusedSimpArgs false
namespace Go.Pg
open Go Go.Proofs

def aInt (n : Int) : AV := .int .i64 n
theorem getD_ints (l : List Int) (i : Nat) : (l.map aInt).getD i (.int .i64 0) = aInt (l.getD i 0) := getD_map aInt l i 0
def tellInts : Nat → List Int → List (List AV)
  | _, [] => []
  | i, n :: r => [.int .i64 i, .int .i64 n] :: tellInts (i + 1) r
theorem tellInts_get : ∀ (l : List Int) (k i : Nat), i < l.length → (tellInts k l)[i]? = some [.int .i64 ((k + i : Nat) : Int), .int .i64 (l.getD i 0)] := by
  intro l
  induction l with
  | nil => intro k i h; simp at h
  | cons n r ih =>
    intro k i h
    cases i with
    | zero => simp [tellInts]
    | succ i =>
      simp only [tellInts, List.getElem?_cons_succ, List.getD_cons_succ]
      rw [ih (k + 1) i (by simpa using h), show k + 1 + i = k + (i + 1) by omega]
theorem tellInts_len : ∀ (l : List Int) (k : Nat), (tellInts k l).length = l.length := by
  intro l
  induction l with
  | nil => intro k; rfl
  | cons n r ih => intro k; simp [tellInts, ih]

set_option maxRecDepth 20000 in
set_option maxHeartbeats 4000000 in
theorem it_All_int (l : List Int) (hl : l.length ≤ 65536) : ItR Tryz.prog 307 [.rp [.sl 1 (l.map aInt)]] (Tell.seq (tellInts 0 l)) := by
  refine itR_of (mrg := true) (dyn := []) (CtrOK.nil _) mixed Tryz.func307 rfl (by simp [Tryz.ntmps307, AV.cells]) (by kernel_rfl) (by kernel_rfl) ?_ ?_
  · intro x hx
    obtain ⟨i, hi⟩ := List.mem_iff_getElem?.1 hx
    have hil : i < l.length := by rw [← tellInts_len l 0]; exact (List.getElem?_eq_some_iff.1 hi).1
    rw [tellInts_get l 0 i hil] at hi
    cases hi
    rfl
  intro y
  simp (maxSteps := 4000000) only [↓wpY_H, ↓wpYH_skip, ↓wpYH_ret, ↓wpYH_exit, ↓wpYH_seq, ↓wpYH_cond, ↓wpYH_block, ↓wpYH_loop, ↓wpYH_region0, ↓wpYH_region1, regYH_none, regYH_some, runYH_nil, runYH_cons, ↓oneYH_eq, runYDH_nil, runYDH_cons, ↓tkC_eq, yarg, yselH_none, yselH_some, yieldH_some, ↓thenY_normal, ↓thenY_ret, ↓thenY_exit, ↓blockY_normal, ↓blockY_ret, ↓blockY_exit, ↓endY_normal, ↓endY_ret, endT_none, endT_some, go_sem, Int.reduceBEq, Int.reduceBNe, Int.reduceLE, Int.reduceLT, Int.reduceToNat, Nat.reduceAdd, Nat.reduceBEq, Nat.reduceBNe, Nat.reduceEqDiff, Nat.reduceLT, Nat.reduceLeDiff, Nat.reduceMul, Nat.reducePow, Nat.reduceSub, UInt8.reduceOfNat, reduceCtorEq, reduceIte, List.length_map]
  refine loopYH_intro (α := Nat) (fun i => (some i, [(0, .yld y), (1, .rp [.sl 1 (l.map aInt)]), (5, .sl 1 (l.map aInt)), (6, .int .i64 l.length), (7, .int .i64 i)], []))
    (fun i => i ≤ l.length) (fun i => l.length - i) 0 (by omega) (by rfl) ?_ ?_
  · simp (maxSteps := 4000000) only [↓wpY_H, ↓wpYH_skip, ↓wpYH_ret, ↓wpYH_exit, ↓wpYH_seq, ↓wpYH_cond, ↓wpYH_block, ↓wpYH_loop, ↓wpYH_region0, ↓wpYH_region1, regYH_none, regYH_some, runYH_nil, runYH_cons, ↓oneYH_eq, runYDH_nil, runYDH_cons, ↓tkC_eq, yarg, yselH_none, yselH_some, yieldH_some, ↓thenY_normal, ↓thenY_ret, ↓thenY_exit, ↓blockY_normal, ↓blockY_ret, ↓blockY_exit, ↓endY_normal, ↓endY_ret, endT_none, endT_some, go_sem, Int.reduceBEq, Int.reduceBNe, Int.reduceLE, Int.reduceLT, Int.reduceToNat, Nat.reduceAdd, Nat.reduceBEq, Nat.reduceBNe, Nat.reduceEqDiff, Nat.reduceLT, Nat.reduceLeDiff, Nat.reduceMul, Nat.reducePow, Nat.reduceSub, UInt8.reduceOfNat, reduceCtorEq, reduceIte]
    all_goals rfl
  intro i hi
  by_cases hlt : i < l.length
  · have hct : decide ((i : Int) < (l.length : Int)) = true := decide_eq_true (by omega)
    have hy := tellInts_get l 0 i hlt
    rw [Nat.zero_add] at hy
    simp (maxSteps := 4000000) only [↓wpY_H, ↓wpYH_skip, ↓wpYH_ret, ↓wpYH_exit, ↓wpYH_seq, ↓wpYH_cond, ↓wpYH_block, ↓wpYH_loop, ↓wpYH_region0, ↓wpYH_region1, regYH_none, regYH_some, runYH_nil, runYH_cons, ↓oneYH_eq, runYDH_nil, runYDH_cons, ↓tkC_eq, yarg, yselH_none, yselH_some, yieldH_some, ↓thenY_normal, ↓thenY_ret, ↓thenY_exit, ↓blockY_normal, ↓blockY_ret, ↓blockY_exit, ↓endY_normal, ↓endY_ret, endT_none, endT_some, go_sem, Int.reduceBEq, Int.reduceBNe, Int.reduceLE, Int.reduceLT, Int.reduceToNat, Nat.reduceAdd, Nat.reduceBEq, Nat.reduceBNe, Nat.reduceEqDiff, Nat.reduceLT, Nat.reduceLeDiff, Nat.reduceMul, Nat.reducePow, Nat.reduceSub, UInt8.reduceOfNat, reduceCtorEq, reduceIte, hct, getD_ints, aInt, hy, Int.toNat_natCast, List.length_map]
    exact ⟨⟨by omega, hlt⟩, rfl, i + 1, by omega, by omega, rfl, by rw [wrap64 (by omega) (by omega)]; rfl⟩
  · have hct : decide ((i : Int) < (l.length : Int)) = false := decide_eq_false (by omega)
    simp (maxSteps := 4000000) only [↓wpY_H, ↓wpYH_skip, ↓wpYH_ret, ↓wpYH_exit, ↓wpYH_seq, ↓wpYH_cond, ↓wpYH_block, ↓wpYH_loop, ↓wpYH_region0, ↓wpYH_region1, regYH_none, regYH_some, runYH_nil, runYH_cons, ↓oneYH_eq, runYDH_nil, runYDH_cons, ↓tkC_eq, yarg, yselH_none, yselH_some, yieldH_some, ↓thenY_normal, ↓thenY_ret, ↓thenY_exit, ↓blockY_normal, ↓blockY_ret, ↓blockY_exit, ↓endY_normal, ↓endY_ret, endT_none, endT_some, go_sem, Int.reduceBEq, Int.reduceBNe, Int.reduceLE, Int.reduceLT, Int.reduceToNat, Nat.reduceAdd, Nat.reduceBEq, Nat.reduceBNe, Nat.reduceEqDiff, Nat.reduceLT, Nat.reduceLeDiff, Nat.reduceMul, Nat.reducePow, Nat.reduceSub, UInt8.reduceOfNat, reduceCtorEq, reduceIte, hct]
    rw [tellInts_len]; omega

/-! ### Pieces: a bool and two numbers -/
abbrev Pc := Bool × Int × Int
def aPc (p : Pc) : AV := .agg [.bool p.1, .int .i64 p.2.1, .int .i64 p.2.2]
theorem getD_pcs (l : List Pc) (i : Nat) : (l.map aPc).getD i (.agg [.bool false, .int .i64 0, .int .i64 0]) = aPc (l.getD i (false, 0, 0)) := getD_map aPc l i (false, 0, 0)
def tellPcs : Nat → List Pc → List (List AV)
  | _, [] => []
  | i, n :: r => [.int .i64 i, aPc n] :: tellPcs (i + 1) r
theorem tellPcs_get : ∀ (l : List Pc) (k i : Nat), i < l.length → (tellPcs k l)[i]? = some [.int .i64 ((k + i : Nat) : Int), aPc (l.getD i (false, 0, 0))] := by
  intro l
  induction l with
  | nil => intro k i h; simp at h
  | cons n r ih =>
    intro k i h
    cases i with
    | zero => simp [tellPcs]
    | succ i =>
      simp only [tellPcs, List.getElem?_cons_succ, List.getD_cons_succ]
      rw [ih (k + 1) i (by simpa using h), show k + 1 + i = k + (i + 1) by omega]
theorem tellPcs_len : ∀ (l : List Pc) (k : Nat), (tellPcs k l).length = l.length := by
  intro l
  induction l with
  | nil => intro k; rfl
  | cons n r ih => intro k; simp [tellPcs, ih]

set_option maxRecDepth 20000 in
set_option maxHeartbeats 4000000 in
theorem it_All_pc (l : List Pc) (hl : l.length ≤ 65536) : ItR Tryz.prog 299 [.rp [.sl 3 (l.map aPc)]] (Tell.seq (tellPcs 0 l)) := by
  refine itR_of (mrg := true) (dyn := []) (CtrOK.nil _) mixed Tryz.func299 rfl (by simp [Tryz.ntmps299, AV.cells]) (by kernel_rfl) (by kernel_rfl) ?_ ?_
  · intro x hx
    obtain ⟨i, hi⟩ := List.mem_iff_getElem?.1 hx
    have hil : i < l.length := by rw [← tellPcs_len l 0]; exact (List.getElem?_eq_some_iff.1 hi).1
    rw [tellPcs_get l 0 i hil] at hi
    cases hi
    rfl
  intro y
  simp (maxSteps := 4000000) only [↓wpY_H, ↓wpYH_skip, ↓wpYH_ret, ↓wpYH_exit, ↓wpYH_seq, ↓wpYH_cond, ↓wpYH_block, ↓wpYH_loop, ↓wpYH_region0, ↓wpYH_region1, regYH_none, regYH_some, runYH_nil, runYH_cons, ↓oneYH_eq, runYDH_nil, runYDH_cons, ↓tkC_eq, yarg, yselH_none, yselH_some, yieldH_some, ↓thenY_normal, ↓thenY_ret, ↓thenY_exit, ↓blockY_normal, ↓blockY_ret, ↓blockY_exit, ↓endY_normal, ↓endY_ret, endT_none, endT_some, go_sem, Int.reduceBEq, Int.reduceBNe, Int.reduceLE, Int.reduceLT, Int.reduceToNat, Nat.reduceAdd, Nat.reduceBEq, Nat.reduceBNe, Nat.reduceEqDiff, Nat.reduceLT, Nat.reduceLeDiff, Nat.reduceMul, Nat.reducePow, Nat.reduceSub, UInt8.reduceOfNat, reduceCtorEq, reduceIte, List.length_map]
  refine loopYH_intro (α := Nat) (fun i => (some i, [(0, .yld y), (1, .rp [.sl 3 (l.map aPc)]), (5, .sl 3 (l.map aPc)), (6, .int .i64 l.length), (7, .int .i64 i)], []))
    (fun i => i ≤ l.length) (fun i => l.length - i) 0 (by omega) (by rfl) ?_ ?_
  · simp (maxSteps := 4000000) only [↓wpY_H, ↓wpYH_skip, ↓wpYH_ret, ↓wpYH_exit, ↓wpYH_seq, ↓wpYH_cond, ↓wpYH_block, ↓wpYH_loop, ↓wpYH_region0, ↓wpYH_region1, regYH_none, regYH_some, runYH_nil, runYH_cons, ↓oneYH_eq, runYDH_nil, runYDH_cons, ↓tkC_eq, yarg, yselH_none, yselH_some, yieldH_some, ↓thenY_normal, ↓thenY_ret, ↓thenY_exit, ↓blockY_normal, ↓blockY_ret, ↓blockY_exit, ↓endY_normal, ↓endY_ret, endT_none, endT_some, go_sem, Int.reduceBEq, Int.reduceBNe, Int.reduceLE, Int.reduceLT, Int.reduceToNat, Nat.reduceAdd, Nat.reduceBEq, Nat.reduceBNe, Nat.reduceEqDiff, Nat.reduceLT, Nat.reduceLeDiff, Nat.reduceMul, Nat.reducePow, Nat.reduceSub, UInt8.reduceOfNat, reduceCtorEq, reduceIte]
    all_goals rfl
  intro i hi
  by_cases hlt : i < l.length
  · have hct : decide ((i : Int) < (l.length : Int)) = true := decide_eq_true (by omega)
    have hy := tellPcs_get l 0 i hlt
    rw [Nat.zero_add] at hy
    simp (maxSteps := 4000000) only [↓wpY_H, ↓wpYH_skip, ↓wpYH_ret, ↓wpYH_exit, ↓wpYH_seq, ↓wpYH_cond, ↓wpYH_block, ↓wpYH_loop, ↓wpYH_region0, ↓wpYH_region1, regYH_none, regYH_some, runYH_nil, runYH_cons, ↓oneYH_eq, runYDH_nil, runYDH_cons, ↓tkC_eq, yarg, yselH_none, yselH_some, yieldH_some, ↓thenY_normal, ↓thenY_ret, ↓thenY_exit, ↓blockY_normal, ↓blockY_ret, ↓blockY_exit, ↓endY_normal, ↓endY_ret, endT_none, endT_some, go_sem, Int.reduceBEq, Int.reduceBNe, Int.reduceLE, Int.reduceLT, Int.reduceToNat, Nat.reduceAdd, Nat.reduceBEq, Nat.reduceBNe, Nat.reduceEqDiff, Nat.reduceLT, Nat.reduceLeDiff, Nat.reduceMul, Nat.reducePow, Nat.reduceSub, UInt8.reduceOfNat, reduceCtorEq, reduceIte, hct, getD_pcs, aPc, hy, Int.toNat_natCast, List.length_map]
    exact ⟨⟨by omega, hlt⟩, rfl, i + 1, by omega, by omega, rfl, by rw [wrap64 (by omega) (by omega)]; rfl⟩
  · have hct : decide ((i : Int) < (l.length : Int)) = false := decide_eq_false (by omega)
    simp (maxSteps := 4000000) only [↓wpY_H, ↓wpYH_skip, ↓wpYH_ret, ↓wpYH_exit, ↓wpYH_seq, ↓wpYH_cond, ↓wpYH_block, ↓wpYH_loop, ↓wpYH_region0, ↓wpYH_region1, regYH_none, regYH_some, runYH_nil, runYH_cons, ↓oneYH_eq, runYDH_nil, runYDH_cons, ↓tkC_eq, yarg, yselH_none, yselH_some, yieldH_some, ↓thenY_normal, ↓thenY_ret, ↓thenY_exit, ↓blockY_normal, ↓blockY_ret, ↓blockY_exit, ↓endY_normal, ↓endY_ret, endT_none, endT_some, go_sem, Int.reduceBEq, Int.reduceBNe, Int.reduceLE, Int.reduceLT, Int.reduceToNat, Nat.reduceAdd, Nat.reduceBEq, Nat.reduceBNe, Nat.reduceEqDiff, Nat.reduceLT, Nat.reduceLeDiff, Nat.reduceMul, Nat.reducePow, Nat.reduceSub, UInt8.reduceOfNat, reduceCtorEq, reduceIte, hct]
    rw [tellPcs_len]; omega

/-! ### Places: where there are none -/
set_option maxRecDepth 20000 in
set_option maxHeartbeats 4000000 in
theorem it_All_pos0 : ItR Tryz.prog 186 [.rp [.sl 2 []]] (Tell.seq []) := by
  refine itR_of (mrg := true) (dyn := []) (CtrOK.nil _) mixed Tryz.func186 rfl (by simp [Tryz.ntmps186, AV.cells]) (by kernel_rfl) (by kernel_rfl) ?_ ?_
  · intro x hx
    cases hx
  intro y
  simp (maxSteps := 4000000) only [↓wpY_H, ↓wpYH_skip, ↓wpYH_ret, ↓wpYH_exit, ↓wpYH_seq, ↓wpYH_cond, ↓wpYH_block, ↓wpYH_loop, ↓wpYH_region0, ↓wpYH_region1, regYH_none, regYH_some, runYH_nil, runYH_cons, ↓oneYH_eq, runYDH_nil, runYDH_cons, ↓tkC_eq, yarg, yselH_none, yselH_some, yieldH_some, ↓thenY_normal, ↓thenY_ret, ↓thenY_exit, ↓blockY_normal, ↓blockY_ret, ↓blockY_exit, ↓endY_normal, ↓endY_ret, endT_none, endT_some, go_sem, Int.reduceBEq, Int.reduceBNe, Int.reduceLE, Int.reduceLT, Int.reduceToNat, Nat.reduceAdd, Nat.reduceBEq, Nat.reduceBNe, Nat.reduceEqDiff, Nat.reduceLT, Nat.reduceLeDiff, Nat.reduceMul, Nat.reducePow, Nat.reduceSub, UInt8.reduceOfNat, reduceCtorEq, reduceIte, List.length_nil]
  refine loopYH_intro (α := Unit) (fun _ => (some 0, [(0, .yld y), (6, .int .i64 0), (7, .int .i64 0)], []))
    (fun _ => True) (fun _ => 0) () trivial (by rfl) ?_ ?_
  · simp (maxSteps := 4000000) only [↓wpY_H, ↓wpYH_skip, ↓wpYH_ret, ↓wpYH_exit, ↓wpYH_seq, ↓wpYH_cond, ↓wpYH_block, ↓wpYH_loop, ↓wpYH_region0, ↓wpYH_region1, regYH_none, regYH_some, runYH_nil, runYH_cons, ↓oneYH_eq, runYDH_nil, runYDH_cons, ↓tkC_eq, yarg, yselH_none, yselH_some, yieldH_some, ↓thenY_normal, ↓thenY_ret, ↓thenY_exit, ↓blockY_normal, ↓blockY_ret, ↓blockY_exit, ↓endY_normal, ↓endY_ret, endT_none, endT_some, go_sem, Int.reduceBEq, Int.reduceBNe, Int.reduceLE, Int.reduceLT, Int.reduceToNat, Nat.reduceAdd, Nat.reduceBEq, Nat.reduceBNe, Nat.reduceEqDiff, Nat.reduceLT, Nat.reduceLeDiff, Nat.reduceMul, Nat.reducePow, Nat.reduceSub, UInt8.reduceOfNat, reduceCtorEq, reduceIte]
    all_goals rfl
  intro _ _
  simp (maxSteps := 4000000) only [↓wpY_H, ↓wpYH_skip, ↓wpYH_ret, ↓wpYH_exit, ↓wpYH_seq, ↓wpYH_cond, ↓wpYH_block, ↓wpYH_loop, ↓wpYH_region0, ↓wpYH_region1, regYH_none, regYH_some, runYH_nil, runYH_cons, ↓oneYH_eq, runYDH_nil, runYDH_cons, ↓tkC_eq, yarg, yselH_none, yselH_some, yieldH_some, ↓thenY_normal, ↓thenY_ret, ↓thenY_exit, ↓blockY_normal, ↓blockY_ret, ↓blockY_exit, ↓endY_normal, ↓endY_ret, endT_none, endT_some, go_sem, Int.reduceBEq, Int.reduceBNe, Int.reduceLE, Int.reduceLT, Int.reduceToNat, Nat.reduceAdd, Nat.reduceBEq, Nat.reduceBNe, Nat.reduceEqDiff, Nat.reduceLT, Nat.reduceLeDiff, Nat.reduceMul, Nat.reducePow, Nat.reduceSub, UInt8.reduceOfNat, reduceCtorEq, reduceIte, List.length_nil]
  all_goals rfl

set_option maxRecDepth 20000 in
set_option maxHeartbeats 4000000 in
theorem it_Back_pos0 : ItR Tryz.prog 427 [.rp [.sl 2 []]] (Tell.seq []) := by
  refine itR_of (mrg := true) (dyn := []) (CtrOK.nil _) mixed Tryz.func427 rfl (by simp [Tryz.ntmps427, AV.cells]) (by kernel_rfl) (by kernel_rfl) ?_ ?_
  · intro x hx
    cases hx
  intro y
  simp (maxSteps := 4000000) only [↓wpY_H, ↓wpYH_skip, ↓wpYH_ret, ↓wpYH_exit, ↓wpYH_seq, ↓wpYH_cond, ↓wpYH_block, ↓wpYH_loop, ↓wpYH_region0, ↓wpYH_region1, regYH_none, regYH_some, runYH_nil, runYH_cons, ↓oneYH_eq, runYDH_nil, runYDH_cons, ↓tkC_eq, yarg, yselH_none, yselH_some, yieldH_some, ↓thenY_normal, ↓thenY_ret, ↓thenY_exit, ↓blockY_normal, ↓blockY_ret, ↓blockY_exit, ↓endY_normal, ↓endY_ret, endT_none, endT_some, go_sem, Int.reduceBEq, Int.reduceBNe, Int.reduceLE, Int.reduceLT, Int.reduceToNat, Nat.reduceAdd, Nat.reduceBEq, Nat.reduceBNe, Nat.reduceEqDiff, Nat.reduceLT, Nat.reduceLeDiff, Nat.reduceMul, Nat.reducePow, Nat.reduceSub, UInt8.reduceOfNat, reduceCtorEq, reduceIte, List.length_nil]
  have hw : IntKind.i64.wrap (0 - 1) = -1 := by decide
  refine loopYH_intro (α := Unit) (fun _ => (some 0, [(0, .yld y), (3, .int .i64 (-1))], []))
    (fun _ => True) (fun _ => 0) () trivial (by rfl) ?_ ?_
  · simp (maxSteps := 4000000) only [↓wpY_H, ↓wpYH_skip, ↓wpYH_ret, ↓wpYH_exit, ↓wpYH_seq, ↓wpYH_cond, ↓wpYH_block, ↓wpYH_loop, ↓wpYH_region0, ↓wpYH_region1, regYH_none, regYH_some, runYH_nil, runYH_cons, ↓oneYH_eq, runYDH_nil, runYDH_cons, ↓tkC_eq, yarg, yselH_none, yselH_some, yieldH_some, ↓thenY_normal, ↓thenY_ret, ↓thenY_exit, ↓blockY_normal, ↓blockY_ret, ↓blockY_exit, ↓endY_normal, ↓endY_ret, endT_none, endT_some, go_sem, Int.reduceBEq, Int.reduceBNe, Int.reduceLE, Int.reduceLT, Int.reduceToNat, Nat.reduceAdd, Nat.reduceBEq, Nat.reduceBNe, Nat.reduceEqDiff, Nat.reduceLT, Nat.reduceLeDiff, Nat.reduceMul, Nat.reducePow, Nat.reduceSub, UInt8.reduceOfNat, reduceCtorEq, reduceIte, hw]
    all_goals rfl
  intro _ _
  simp (maxSteps := 4000000) only [↓wpY_H, ↓wpYH_skip, ↓wpYH_ret, ↓wpYH_exit, ↓wpYH_seq, ↓wpYH_cond, ↓wpYH_block, ↓wpYH_loop, ↓wpYH_region0, ↓wpYH_region1, regYH_none, regYH_some, runYH_nil, runYH_cons, ↓oneYH_eq, runYDH_nil, runYDH_cons, ↓tkC_eq, yarg, yselH_none, yselH_some, yieldH_some, ↓thenY_normal, ↓thenY_ret, ↓thenY_exit, ↓blockY_normal, ↓blockY_ret, ↓blockY_exit, ↓endY_normal, ↓endY_ret, endT_none, endT_some, go_sem, Int.reduceBEq, Int.reduceBNe, Int.reduceLE, Int.reduceLT, Int.reduceToNat, Nat.reduceAdd, Nat.reduceBEq, Nat.reduceBNe, Nat.reduceEqDiff, Nat.reduceLT, Nat.reduceLeDiff, Nat.reduceMul, Nat.reducePow, Nat.reduceSub, UInt8.reduceOfNat, reduceCtorEq, reduceIte, List.length_nil]
  all_goals first | rfl | exact fun h => absurd h (by decide)
end Go.Pg
namespace Go.Pg
open Go Go.Proofs

theorem run_cnt : ∀ (args : Array Value) (w : World), (callFunc 100 args).run Tryz.prog w = ((Extern.BytealgCount.count args).run Tryz.prog w).andThen fun v w' => .ok (.value v) w' :=
  run_callFunc_extern Tryz.func100 (by kernel_rfl) (by kernel_rfl) (by kernel_rfl) (by kernel_rfl)
theorem run_idx : ∀ (args : Array Value) (w : World), (callFunc 194 args).run Tryz.prog w = ((Extern.BytealgIndexByte.indexByte args).run Tryz.prog w).andThen fun v w' => .ok (.value v) w' :=
  run_callFunc_extern Tryz.func194 (by kernel_rfl) (by kernel_rfl) (by kernel_rfl) (by kernel_rfl)

def extL : FuncId → List AV → Option AV := fun f xs => match xs with
  | [.str s, .int .u8 n] => if f = 100 then some (.int .i64 (cntB n.toNat.toUInt8 s)) else if f = 194 then some (.int .i64 (Lib.indexByte s n.toNat.toUInt8)) else none
  | _ => none

theorem extL_ok : ∀ fid xs v (ev : AEnv) (o : Oper), extL fid xs = some v → CallIs ev o fid xs → PureOK Tryz.prog o (fun E a => Opd ev E a o) v := by
  intro fid xs v ev o h ho
  unfold extL at h
  split at h
  · split at h
    · next e => cases h; subst e; exact ext_count run_cnt ho
    · split at h
      · next e => cases h; subst e; exact ext_index run_idx ho
      · cases h
  · cases h
end Go.Pg
namespace Go.Pg.Le
open Go Go.Pg Go.Proofs Go.Shelf Go.RowKit

theorem callsR_new {P : Program} {f : FuncId} {args : List AV} {t : TypeId} {sz : Nat}
    (h : ∀ (E : Env) (vals : Array Value), VRs E args vals → Calls P f vals E.W fun e W' => (e = .returned (.slice none 0 0) ∧ W' = E.W) ∨ ∃ (C : Array Value) (cap : Nat), e = .returned (.slice (some ⟨E.W.heap.size, 0, none⟩) 0 cap) ∧ SameBut E.W W' ∧ W'.heap = E.W.heap.push (.cells C t (0, 0)) ∧ C.size = cap * sz ∧ cap ≤ maxLen) :
    CallsR P f args [] (.own 0 sz 0) [.arr t sz []] := by
  intro E vals hr hv
  have hle : AHle [] [.arr t sz []] := fun id o ho => by simp at ho
  obtain ⟨E1, hr1, hW1, hM1, hst1⟩ := hr.le hle
  have hm0 : E1.M 0 = none := by rw [hM1]; exact hr.dom 0 (Nat.zero_le _)
  refine (h E vals hv).mono fun e W' hh => ?_
  rcases hh with ⟨he, hw⟩ | ⟨C, cap, he, hs, hh, hC, hcap⟩
  · obtain ⟨E', hW, hr', hst, _, hMid, hhl⟩ := alloc_nil hr1 (id := 0) hm0 (e := t) (sz := sz) (o' := .arr t sz []) rfl (AOle.refl _)
    refine ⟨_, E', he, by rw [hW, hW1, hw], .own 0 sz 0 none 0 (by rw [hMid]; rfl) (fun _ => rfl) (fun L hL => ?_), hr', hst1.trans hst⟩
    exact ⟨Nat.zero_le _, fun _ => .inl ⟨hMid, rfl, rfl⟩⟩
  · obtain ⟨E', hW, hr', hst, _, hMid, hhl⟩ := alloc_rel hr1 (id := 0) hm0 (e := t) (sz := sz) (vs := []) rfl (AOle.refl _) (w' := W') (c := C) (fz := (0, 0)) (by rw [hW1]; exact hs) (by rw [hW1]; exact hh) (by simp) (fun k _ hk => by simp at hk) (fun i v hi => by simp at hi)
    refine ⟨_, E', he, hW, .own 0 sz 0 _ cap (by rw [hMid]; rfl) (fun h => by cases h) (fun L hL => ?_), hr', hst1.trans hst⟩
    rw [hr'.hl] at hL
    have : L = 0 := by simpa [hlOf, AO.len] using hL.symm
    subst this
    exact ⟨Nat.le_refl _, fun _ => .inr ⟨E.W.heap.size, C, t, (0, 0), by rw [hMid, hW1], rfl, Nat.zero_le _, hcap, by rw [hW, hh]; simp, hC⟩⟩

def growRen : Go.Shelf.Ren := ⟨fun | 4 => 309 | n => n, fun | 0 => 0 | 3 => 3 | 4 => 4 | 9 => 9 | 20 => 20 | 22 => 22 | 25 => 9 | n => n, fun | n => n⟩
theorem growLays : Lays8.n4 Tryz.prog growRen := {
  mixed := by kernel_rfl
  f4 := ⟨Tryz.f309.name, by decide, Tryz.func309.trans (congrArg some (by kernel_rfl))⟩
  t0 := Tryz.underlying0
  a0 := Tryz.isAgg0
  z0 := Tryz.sizeOf0
  v0 := Tryz.zeroValue0
  t3 := Tryz.underlying3
  a3 := Tryz.isAgg3
  z3 := Tryz.sizeOf3
  v3 := Tryz.zeroValue3
  t4 := Tryz.underlying4
  a4 := Tryz.isAgg4
  z4 := Tryz.sizeOf4
  v4 := Tryz.zeroValue4
  t9 := Tryz.underlying9
  a9 := Tryz.isAgg9
  z9 := Tryz.sizeOf9
  v9 := Tryz.zeroValue9
  t20 := Tryz.underlying20
  a20 := Tryz.isAgg20
  z20 := Tryz.sizeOf20
  v20 := Tryz.zeroValue20
  t22 := Tryz.underlying22
  a22 := Tryz.isAgg22
  z22 := Tryz.sizeOf22
  v22 := Tryz.zeroValue22 }

theorem calls_Grow (n : Nat) (h1 : 0 < n) (h2 : n ≤ 1099511627776) : CallsR Tryz.prog 309 [.nls, .int .i64 n] [] (.own 0 1 0) [.arr 9 1 []] := by
  refine callsR_new fun E vals hv => ?_
  obtain ⟨u, v, rfl, k1, k2⟩ := hv.two
  rw [k1.nls_inv, k2.int_inv]
  have hi : ∃ i0 z, Tryz.prog.info? 9 = some i0 ∧ i0.zero = some z ∧ i0.size = 1 ∧ i0.bytes = 16 ∧ z.cells.size = 1 := by
    have h : (match Tryz.prog.info? 9 with
      | some i => match i.zero with
        | some z => i.size == 1 && i.bytes == 16 && z.cells.size == 1
        | none => false
      | none => false) = true := by kernel_rfl
    split at h
    · next i hi =>
      split at h
      · next z hz =>
        simp only [Bool.and_eq_true, beq_iff_eq] at h
        exact ⟨i, z, hi, hz, h.1.1, h.1.2, h.2⟩
      · cases h
    · cases h
  obtain ⟨i0, z, hi0, hz, hs1, hb1, hc1⟩ := hi
  refine (Any8.slices_Grow_grow growLays i0 z hi0 hz (by omega) none 0 0 n [] E.W (Nat.le_refl _) (by omega) (by rw [hb1]; omega) (by omega) (by simp) (fun _ => rfl) (fun a ha => by cases ha)).mono fun e W' ⟨he, hw⟩ => ?_
  obtain ⟨hsb, hh⟩ := drew_same E.W (.cells (([] : List Value).toArray ++ Builtin.zeroCells z.cells (0 + n - 0) ++ Builtin.zeroCells z.cells (grownCap E.W (0 + n) 0 9 - (0 + n))) 9)
  have hge := grownCap_ge E.W (0 + n) 0 9
  refine .inr ⟨_, grownCap E.W (0 + n) 0 9, he, by rw [hw]; exact hsb, by rw [hw]; exact hh, ?_, grownCap_le_maxLen E.W _ 0 _ (by unfold maxLen; omega)⟩
  rw [Array.size_append, Array.size_append, growZ hc1, growZ hc1]
  simp only [Nat.zero_add] at hge
  simp only [List.size_toArray, List.length_nil, Nat.zero_add, Nat.sub_zero, ← Nat.add_mul]
  rw [show n + (grownCap E.W n 0 9 - n) = grownCap E.W n 0 9 by omega]


theorem vrs_one {E : Env} {a : AV} {vals : Array Value} (h : VRs E [a] vals) : ∃ u, vals = #[u] ∧ VR E a u := by
  obtain ⟨hs, hv⟩ := h
  match vals, hs with
  | ⟨[u]⟩, _ => exact ⟨u, rfl, hv 0 a rfl⟩

theorem callsR_mapCopy {P : Program} {f : FuncId} {es : List (AV × AV)}
    (h : ∀ (W : World) (b cl : Nat) (a : Array MapEntry), W.heap[b]? = some (.map a cl) → Calls P f #[.map (some b)] W fun e w' => e = .returned (.map (some W.heap.size)) ∧ w' = W.alloc (.map a cl)) :
    CallsR P f [.mp 0] [.mp es] (.mp 1) [.mp es, .mp es] := by
  intro E vals hr hv
  obtain ⟨u, rfl, k1⟩ := vrs_one hv
  obtain ⟨b, a, cl, rfl, hM, hb, hes, hs⟩ := mp_read hr k1 (es := es) rfl
  refine (h E.W b cl a hb).mono fun e W' ⟨he, hw⟩ => ?_
  have hle : AHle [.mp es] [.mp es, .mp es] := fun id o ho => by
    cases id with
    | zero => exact ⟨o, ho, .refl o⟩
    | succ n => simp at ho
  obtain ⟨E1, hr1, hW1, hM1, hst1⟩ := hr.le hle
  have hes1 : EntsAt E1 es a := hes.mono (hst1.ext hr)
  obtain ⟨E', hW, hr', hst, hMo, hMid, hhl⟩ := alloc_gen hr1 (id := 1) (by rw [hM1]; exact hr.dom 1 (Nat.le_refl _)) (o' := .mp es) rfl (by simp) (w' := W') (ob := .map a cl) (by rw [hw, hW1]; exact ⟨rfl, rfl, rfl⟩) (by rw [hw, hW1]; rfl)
    fun E' hx hE' => ⟨_, a, cl, rfl, by rw [hE', hw, hW1]; exact heap_alloc_new E.W _, hes1.mono hx, hs⟩
  rw [hW1] at hMid
  exact ⟨_, E', he, hW, .mp _ _ (by rw [hMid]; rfl) (fun _ => hMid), hr', hst1.trans hst⟩

def cloneRen : Ren := ⟨fun | 5 => 318 | 7 => 371 | n => n, fun | 4 => 4 | 20 => 20 | 23 => 140 | 25 => 5 | 3 => 24 | n => n, fun | n => n⟩
theorem cloneLays : SlLaysW.n5 Tryz.prog cloneRen := {
  mixed := by kernel_rfl
  f5 := ⟨Tryz.f318.name, by decide, Tryz.func318.trans (congrArg some (by kernel_rfl))⟩
  f7 := by kernel_rfl
  t4 := Tryz.underlying4
  a4 := Tryz.isAgg4
  z4 := Tryz.sizeOf4
  v4 := Tryz.zeroValue4
  t20 := Tryz.underlying20
  a20 := Tryz.isAgg20
  z20 := Tryz.sizeOf20
  v20 := Tryz.zeroValue20
  t23 := Tryz.underlying140
  a23 := Tryz.isAgg140
  z23 := Tryz.sizeOf140
  v23 := Tryz.zeroValue140 }

theorem calls_Clone (es : List (AV × AV)) : CallsR Tryz.prog 318 [.mp 0] [.mp es] (.mp 1) [.mp es, .mp es] :=
  callsR_mapCopy fun W b cl a hb => AnyW.maps_Clone cloneLays b a cl W hb

/-! ### slices.Clone of no pieces -/
theorem calls_CloneP : CallsR Tryz.prog 128 [.sl 3 []] [.arr 179 3 []] (.sl 3 []) [.arr 179 3 []] := by
  refine callsR_ofW Tryz.func128 rfl (by simp [Tryz.ntmps128]) fun E hr => ?_
  rw [show Tryz.f128.results.toList = [.tmp 2] from by kernel_rfl]
  refine AWp.seq (wpA_sound (C := []) (mrg := true) (dyn := []) (CtrOK.nil _) mixed _ _ E _ _ _ none false hr (fun ev H h => h) (by kernel_rfl) (.inl ⟨rfl, rfl⟩) ?_)
  simp (maxSteps := 4000000) only [go_sem, Int.reduceBEq, Int.reduceBNe, Int.reduceLE, Int.reduceLT, Int.reduceToNat, Nat.reduceAdd, Nat.reduceBEq, Nat.reduceBNe, Nat.reduceEqDiff, Nat.reduceLT, Nat.reduceLeDiff, Nat.reduceMul, Nat.reducePow, Nat.reduceSub, UInt8.reduceOfNat, reduceCtorEq, reduceIte]
  refine AWp.seq (AWp.seq (AWp.isNil (z := 3) (vs := []) Tryz.underlying219 (by simp [Tryz.ntmps128]) (by simp [Tryz.ntmps128]) (by simp [Pg.look]) fun b hbn => ?_))
  refine wpA_sound (C := []) (mrg := true) (dyn := []) (CtrOK.nil _) mixed _ _ E _ _ _ none false hr (fun ev H h => h) (by kernel_rfl) (.inl ⟨rfl, rfl⟩) ?_
  simp (maxSteps := 4000000) only [go_sem, Int.reduceBEq, Int.reduceBNe, Int.reduceLE, Int.reduceLT, Int.reduceToNat, Nat.reduceAdd, Nat.reduceBEq, Nat.reduceBNe, Nat.reduceEqDiff, Nat.reduceLT, Nat.reduceLeDiff, Nat.reduceMul, Nat.reducePow, Nat.reduceSub, UInt8.reduceOfNat, reduceCtorEq, reduceIte]
  refine ⟨fun hb1 => retA_S _ _ _ ?_, fun hb1 => wpA_sound (C := []) (mrg := true) (dyn := []) (CtrOK.nil _) mixed _ _ E _ _ _ none false hr (fun ev H h => h) (by kernel_rfl) (.inl ⟨rfl, rfl⟩) (wpA_mono _ _ _ _ _ (fun e ev H h => retA_S e ev H h) ?_)⟩
  · simp (maxSteps := 4000000) only [go_sem, Int.reduceBEq, Int.reduceBNe, Int.reduceLE, Int.reduceLT, Int.reduceToNat, Nat.reduceAdd, Nat.reduceBEq, Nat.reduceBNe, Nat.reduceEqDiff, Nat.reduceLT, Nat.reduceLeDiff, Nat.reduceMul, Nat.reducePow, Nat.reduceSub, UInt8.reduceOfNat, reduceCtorEq, reduceIte]
    exact ⟨by decide, subX_eq rfl rfl⟩
  · simp (maxSteps := 4000000) only [go_sem, Int.reduceBEq, Int.reduceBNe, Int.reduceLE, Int.reduceLT, Int.reduceToNat, Nat.reduceAdd, Nat.reduceBEq, Nat.reduceBNe, Nat.reduceEqDiff, Nat.reduceLT, Nat.reduceLeDiff, Nat.reduceMul, Nat.reducePow, Nat.reduceSub, UInt8.reduceOfNat, reduceCtorEq, reduceIte]
    exact ⟨by decide, subX_eq rfl rfl⟩

theorem own0_sl {E : Env} {id sz : Nat} {v : Value} (h : VR E (.own id sz 0) v) : VR E (.sl sz []) v := by
  cases h with
  | own _ _ _ a cap h1 h2 h3 => exact .sl sz [] a cap (fun _ _ => Go.undef) (Nat.zero_le _) (fun i v hi => by simp at hi) (fun i v j c hi => by simp at hi)

theorem leaf_CloneP : CallsR Tryz.prog 128 [.own 0 3 0] [.arr 179 3 []] (.sl 3 []) [.arr 179 3 []] := by
  intro E vals hr hv
  obtain ⟨u, rfl, k⟩ := vrs_one hv
  refine calls_CloneP E #[u] hr ⟨rfl, fun i c hc => ?_⟩
  match i, hc with
  | 0, hc => cases hc; exact own0_sl k
  | i + 1, hc => simp at hc

end Go.Pg.Le
namespace Go.Pg.Le
open Go Go.Pg Go.Proofs Go.RowKit

abbrev Ent := List (UInt8 × AV)
def kO (l : Ent) : List UInt8 := l.map (·.1)
theorem decE_any (l : Ent) : decE cByte cAny (encE cByte cAny l) = some l := decE_enc cByte cAny cByte_dec (fun v => rfl) l
theorem cByte_enc (b : UInt8) : cByte.enc b = .int .u8 b.toNat := rfl
theorem cAny_enc (v : AV) : cAny.enc v = v := rfl
def cFm {κ ν : Type} (ck : Cd κ) (cv : Cd ν) : Cd (List (κ × ν)) where
  enc l := .fm (encE ck cv l)
  dec
    | .fm es => decE ck cv es
    | _ => none
  ok v a h := by
    split at h
    · rw [decE_ok _ _ _ _ h]
    · cases h
theorem subX_nls' {H : AH} {F : List Nat} {pick : List (Option Nat)} {i sz : Nat} (h : pick[i]? = some none) : subX H F pick [.nls] [.own i sz 0] := .inr ⟨⟨⟨h, rfl⟩, trivial⟩, trivial⟩
theorem subX_own' {H : AH} {F : List Nat} {pick : List (Option Nat)} {i j sz n n' : Nat} (h : pick[i]? = some (some j)) (hn : n = n') : subX H F pick [.own j sz n] [.own i sz n'] := .inr ⟨⟨⟨h, rfl, hn⟩, trivial⟩, trivial⟩

/-- Keys, each once, in whatever order. -/
def keysR (ks : List UInt8) : List UInt8 → List AV → List UInt8 → Prop := fun t x t' => ∃ c left, x = [.int .u8 c.toNat] ∧ t' = t ++ [c] ∧ (t ++ c :: left).Perm ks
def keysD (ks : List UInt8) : List UInt8 → Prop := fun t => t.Perm ks
def keysT (ks : List UInt8) : Tell := ⟨List UInt8, [], keysR ks, keysD ks⟩

theorem erase_perm {left : Ent} {j : Nat} {p : UInt8 × AV} (hj : left[j]? = some p) : (kO left).Perm (p.1 :: kO (left.eraseIdx j)) := by
  induction left generalizing j with
  | nil => simp at hj
  | cons x r ih =>
    cases j with
    | zero => simp only [List.getElem?_cons_zero, Option.some.injEq] at hj; subst hj; exact List.Perm.refl _
    | succ j =>
      have := ih (j := j) (by simpa using hj)
      exact (this.cons x.1).trans (List.Perm.swap _ _ _)
def lKeys : CdL Ent := lOne (cRp (lOne (cFm cByte cAny)))
theorem lKeys_dec (l : Ent) : lKeys.dec [.rp [.fm (encE cByte cAny l)]] = some l := decE_any l

set_option maxHeartbeats 4000000 in
theorem pass_Collect (w : World) (g : Value) (R : Value → World → Prop) (h : Calls Tryz.prog 183 #[.slice none 0 0, g] w fun e w' => ∃ v, e = .returned v ∧ R v w') :
    Calls Tryz.prog 121 #[g] w fun e w' => ∃ v, e = .returned v ∧ R v w' := by
  go_enter Tryz.func121, Tryz.ntmps121
  go_wp2_with (go_at_call 183; refine h.mono ?_; rintro e w' ⟨v, rfl, hR⟩)
  go_ret
  exact ⟨v, rfl, hR⟩

set_option maxHeartbeats 4000000 in
theorem pass_Sorted (w : World) (g : Value) (R : Value → World → Prop) (h : Calls Tryz.prog 121 #[g] w fun e w' => ∃ v, e = .returned v ∧ Calls Tryz.prog 122 #[v] w' fun e w'' => (∃ u, e = .returned u) ∧ R v w'') :
    Calls Tryz.prog 84 #[g] w fun e w' => ∃ v, e = .returned v ∧ R v w' := by
  go_enter Tryz.func84, Tryz.ntmps84
  go_wp2_with (first
    | (go_at_call 121; refine h.mono ?_; rintro e w' ⟨v, rfl, h2⟩)
    | (go_at_call 122; refine h2.mono ?_; rintro e w' ⟨⟨u, rfl⟩, hR⟩))
  go_ret
  exact ⟨v, rfl, hR⟩

def L00 : Lf where
  fn _ _ _ := none
  tl _ _ := none
  kl _ := false
  ext _ _ := none
theorem L00_ok : LfOK Tryz.prog L00 where
  fn _ _ _ _ _ h := by cases h
  tl := fun _ _ _ h => by cases h
  idl := fun _ _ _ _ _ h => by cases h
  ext _ _ _ _ _ h := by cases h

set_option maxRecDepth 20000 in
set_option maxHeartbeats 4000000 in
theorem it_KeysR (l : Ent) : ItR Tryz.prog 123 [.rp [.fm (encE cByte cAny l)]] ⟨List UInt8, [], keysR (kO l), keysD (kO l)⟩ := by
  refine itV_of (mrg := true) (dyn := []) (CtrOK.nil _) mixed Tryz.func123 rfl (by simp [Tryz.ntmps123, AV.cells]) (by kernel_rfl) (by kernel_rfl) ?_
  intro y
  simp (maxSteps := 4000000) only [↓wpY_H, ↓wpYH_skip, ↓wpYH_ret, ↓wpYH_exit, ↓wpYH_seq, ↓wpYH_cond, ↓wpYH_block, ↓wpYH_loop, ↓wpYH_region0, ↓wpYH_region1, regYH_none, regYH_some, runYH_nil, runYH_cons, ↓oneYH_eq, runYDH_nil, runYDH_cons, ↓tkC_eq, yarg, yselH_none, yselH_some, yieldH_some, ↓thenY_normal, ↓thenY_ret, ↓thenY_exit, ↓blockY_normal, ↓blockY_ret, ↓blockY_exit, ↓endY_normal, ↓endY_ret, endT_none, endT_some, go_sem, Int.reduceBEq, Int.reduceBNe, Int.reduceLE, Int.reduceLT, Int.reduceToNat, Nat.reduceAdd, Nat.reduceBEq, Nat.reduceBNe, Nat.reduceEqDiff, Nat.reduceLT, Nat.reduceLeDiff, Nat.reduceMul, Nat.reducePow, Nat.reduceSub, UInt8.reduceOfNat, reduceCtorEq, reduceIte, yieldU_some, cAny_enc, cByte_enc]
  refine loopYH_intro (ι := List UInt8) (α := Option (AV × AV) × List UInt8 × Ent) (fun x => (some x.2.1, [(5, .it 0), (0, .yld y)], [.it x.1 (encE cByte cAny x.2.2)]))
    (fun x => (x.2.1 ++ kO x.2.2).Perm (kO l)) (fun x => x.2.2.length) (none, [], l) (List.Perm.refl _) rfl ?_ ?_
  · simp (maxSteps := 4000000) only [↓wpY_H, ↓wpYH_skip, ↓wpYH_ret, ↓wpYH_exit, ↓wpYH_seq, ↓wpYH_cond, ↓wpYH_block, ↓wpYH_loop, ↓wpYH_region0, ↓wpYH_region1, regYH_none, regYH_some, runYH_nil, runYH_cons, ↓oneYH_eq, runYDH_nil, runYDH_cons, ↓tkC_eq, yarg, yselH_none, yselH_some, yieldH_some, ↓thenY_normal, ↓thenY_ret, ↓thenY_exit, ↓blockY_normal, ↓blockY_ret, ↓blockY_exit, ↓endY_normal, ↓endY_ret, endT_none, endT_some, go_sem, Int.reduceBEq, Int.reduceBNe, Int.reduceLE, Int.reduceLT, Int.reduceToNat, Nat.reduceAdd, Nat.reduceBEq, Nat.reduceBNe, Nat.reduceEqDiff, Nat.reduceLT, Nat.reduceLeDiff, Nat.reduceMul, Nat.reducePow, Nat.reduceSub, UInt8.reduceOfNat, reduceCtorEq, reduceIte]
  rintro ⟨c, t, left⟩ hp
  simp (maxSteps := 4000000) only [↓wpY_H, ↓wpYH_skip, ↓wpYH_ret, ↓wpYH_exit, ↓wpYH_seq, ↓wpYH_cond, ↓wpYH_block, ↓wpYH_loop, ↓wpYH_region0, ↓wpYH_region1, regYH_none, regYH_some, runYH_nil, runYH_cons, ↓oneYH_eq, runYDH_nil, runYDH_cons, ↓tkC_eq, yarg, yselH_none, yselH_some, yieldH_some, ↓thenY_normal, ↓thenY_ret, ↓thenY_exit, ↓blockY_normal, ↓blockY_ret, ↓blockY_exit, ↓endY_normal, ↓endY_ret, endT_none, endT_some, go_sem, Int.reduceBEq, Int.reduceBNe, Int.reduceLE, Int.reduceLT, Int.reduceToNat, Nat.reduceAdd, Nat.reduceBEq, Nat.reduceBNe, Nat.reduceEqDiff, Nat.reduceLT, Nat.reduceLeDiff, Nat.reduceMul, Nat.reducePow, Nat.reduceSub, UInt8.reduceOfNat, reduceCtorEq, reduceIte, yieldU_some, cAny_enc, cByte_enc]
  refine ⟨fun he => ?_, fun j p hj => ⟨rfl, t ++ [p.1], ⟨p.1, kO (left.eraseIdx j), rfl, rfl, ((erase_perm hj).symm.append_left t).trans hp⟩, (some (cByte.enc p.1, cAny.enc p.2), t ++ [p.1], left.eraseIdx j), ?_, ?_, rfl, rfl, rfl⟩⟩
  · subst he
    simpa [kO, keysD] using hp
  · rw [List.append_assoc]
    exact ((erase_perm hj).symm.append_left t).trans hp
  · have := (List.getElem?_eq_some_iff.1 hj).1
    show (left.eraseIdx j).length < left.length
    rw [List.length_eraseIdx_of_lt this]; omega
def kKeysR : C1 := C1.itU lKeys (fun _ => True) (fun d => keysT (kO d))
theorem ok_KeysR : C1OK Tryz.prog 123 kKeysR := C1OK.itU (by kernel_rfl) (fun d _ => it_KeysR d)
/-- The iterator, xs a value. -/
def aKeysR (l : Ent) : AV := .fn 123 [.rp [.fm (encE cByte cAny l)]]

set_option maxRecDepth 20000 in
set_option maxHeartbeats 4000000 in
theorem calls_AppendSeqR (l : Ent) (hl : l.length ≤ 256) : CallsE Tryz.prog 183 [.nls, aKeysR l] [] (fun t : List UInt8 => t.Perm (kO l)) (fun t => .own 0 1 t.length) (fun t => [.arr 5 1 (ofBytes t)]) := by
  refine callsE_of (mrg := true) (dyn := []) (CtrOK.cons ok_KeysR (CtrOK.nil _)) mixed Tryz.func183 rfl (by simp [Tryz.ntmps183, AV.cells]) (by kernel_rfl) ?_
  rw [show Tryz.f183.results.toList = [.tmp 4] from by kernel_rfl]
  unfold aKeysR
  simp (maxSteps := 4000000) only [go_sem, Int.reduceBEq, Int.reduceBNe, Int.reduceLE, Int.reduceLT, Int.reduceToNat, Nat.reduceAdd, Nat.reduceBEq, Nat.reduceBNe, Nat.reduceEqDiff, Nat.reduceLT, Nat.reduceLeDiff, Nat.reduceMul, Nat.reducePow, Nat.reduceSub, UInt8.reduceOfNat, reduceCtorEq, reduceIte, retE, kKeysR, lKeys_dec]
  rw [mark_eq]
  have hkl : (kO l).length ≤ 256 := by simpa [kO] using hl
  refine rangU_intro (X := ⟨List UInt8, [], keysR (kO l), keysD (kO l)⟩) [(2, .ptr 0 1 1 0 0)] [.arr 25 1 [.nls]]
    (fun t => ([(2, .ptr 0 1 1 0 0)], [.arr 25 1 [.own 1 1 t.length], .arr 5 1 (ofBytes t)])) (fun t => t.length ≤ 256) ?_ ?_ (Nat.zero_le _) ?_ ?_ ?_
  · simp (maxSteps := 4000000) only [go_sem, Int.reduceBEq, Int.reduceBNe, Int.reduceLE, Int.reduceLT, Int.reduceToNat, Nat.reduceAdd, Nat.reduceBEq, Nat.reduceBNe, Nat.reduceEqDiff, Nat.reduceLT, Nat.reduceLeDiff, Nat.reduceMul, Nat.reducePow, Nat.reduceSub, UInt8.reduceOfNat, reduceCtorEq, reduceIte, retE, kKeysR, lKeys_dec]
    exact subX_eq rfl rfl
  · simp (maxSteps := 4000000) only [go_sem, Int.reduceBEq, Int.reduceBNe, Int.reduceLE, Int.reduceLT, Int.reduceToNat, Nat.reduceAdd, Nat.reduceBEq, Nat.reduceBNe, Nat.reduceEqDiff, Nat.reduceLT, Nat.reduceLeDiff, Nat.reduceMul, Nat.reducePow, Nat.reduceSub, UInt8.reduceOfNat, reduceCtorEq, reduceIte, retE, kKeysR, lKeys_dec]
    exact ⟨by decide, subX_nls' rfl, rfl⟩
  · rintro t x t' ⟨c, left, rfl, rfl, hp⟩
    rfl
  · rintro t x t' ⟨c, left, rfl, rfl, hp⟩ ht
    have h1 := hp.length_eq
    rw [List.length_append, List.length_cons] at h1
    simp (maxSteps := 4000000) only [go_sem, Int.reduceBEq, Int.reduceBNe, Int.reduceLE, Int.reduceLT, Int.reduceToNat, Nat.reduceAdd, Nat.reduceBEq, Nat.reduceBNe, Nat.reduceEqDiff, Nat.reduceLT, Nat.reduceLeDiff, Nat.reduceMul, Nat.reducePow, Nat.reduceSub, UInt8.reduceOfNat, reduceCtorEq, reduceIte, retE, kKeysR, lKeys_dec]
    exact ⟨⟨by decide, by omega⟩, by omega, by decide, subX_own' rfl rfl, subX_eq rfl (pureB_bytes _)⟩
  · intro t hD ht
    simp (maxSteps := 4000000) only [go_sem, Int.reduceBEq, Int.reduceBNe, Int.reduceLE, Int.reduceLT, Int.reduceToNat, Nat.reduceAdd, Nat.reduceBEq, Nat.reduceBNe, Nat.reduceEqDiff, Nat.reduceLT, Nat.reduceLeDiff, Nat.reduceMul, Nat.reducePow, Nat.reduceSub, UInt8.reduceOfNat, reduceCtorEq, reduceIte, retE, kKeysR, lKeys_dec]
    exact ⟨t, hD, subX_eq rfl (pureB_bytes _), rfl⟩

/-- Sorted, where any order of the keys is sorted to the same list. -/
theorem calls_SortedR (l : Ent) (hl : l.length ≤ 12) (s : List UInt8) (hsl : s.length = l.length) (hs : ∀ t, t.Perm (kO l) → CallsR Tryz.prog 122 [.own 0 1 t.length] [.arr 5 1 (ofBytes t)] (.tuple []) [.arr 5 1 (ofBytes s)]) :
    CallsR Tryz.prog 84 [aKeysR l] [] (.own 0 1 s.length) [.arr 5 1 (ofBytes s)] := by
  intro E vals hr hv
  obtain ⟨g, rfl, kg⟩ := vrs_one hv
  refine (pass_Sorted E.W g (fun v w'' => ∃ E', E'.W = w'' ∧ VR E' (.own 0 1 s.length) v ∧ Rel [.arr 5 1 (ofBytes s)] E' ∧ Step [] E [.arr 5 1 (ofBytes s)] E') ?_).mono fun e W' ⟨v, he, E', h1, h2, h3, h4⟩ => ⟨v, E', he, h1, h2, h3, h4⟩
  refine pass_Collect E.W g _ ?_
  refine (calls_AppendSeqR l (by omega) E #[.slice none 0 0, g] hr ⟨rfl, fun i c hc => ?_⟩).mono fun e W' ⟨t, v, E1, hx, he, hW, hvr, hr1, hst⟩ => ⟨v, he, ?_⟩
  · match i, hc with
    | 0, hc => cases hc; exact .nls
    | 1, hc => cases hc; exact kg
    | i + 2, hc => simp at hc
  · subst hW
    have htl : t.length = s.length := by rw [hx.length_eq, hsl]; simp [kO]
    refine (hs t hx E1 #[v] hr1 ⟨rfl, fun i c hc => ?_⟩).mono fun e W'' ⟨u, E2, he, hW, _, hr2, hst2⟩ => ⟨⟨u, he⟩, E2, hW, ?_, ?_, ?_⟩
    · match i, hc with
      | 0, hc => cases hc; exact hvr
      | i + 1, hc => simp at hc
    · rw [← htl]; exact hvr.mono (hst2.ext hr1)
    · exact hr2
    · exact hst.trans hst2

set_option maxRecDepth 20000 in
set_option maxHeartbeats 4000000 in
theorem it_KeysP (l : Ent) : ItR Tryz.prog 125 [.rp [.fm (encE cByte cAny l)]] ⟨List UInt8, [], keysR (kO l), keysD (kO l)⟩ := by
  refine itV_of (mrg := true) (dyn := []) (CtrOK.nil _) mixed Tryz.func125 rfl (by simp [Tryz.ntmps125, AV.cells]) (by kernel_rfl) (by kernel_rfl) ?_
  intro y
  simp (maxSteps := 4000000) only [↓wpY_H, ↓wpYH_skip, ↓wpYH_ret, ↓wpYH_exit, ↓wpYH_seq, ↓wpYH_cond, ↓wpYH_block, ↓wpYH_loop, ↓wpYH_region0, ↓wpYH_region1, regYH_none, regYH_some, runYH_nil, runYH_cons, ↓oneYH_eq, runYDH_nil, runYDH_cons, ↓tkC_eq, yarg, yselH_none, yselH_some, yieldH_some, ↓thenY_normal, ↓thenY_ret, ↓thenY_exit, ↓blockY_normal, ↓blockY_ret, ↓blockY_exit, ↓endY_normal, ↓endY_ret, endT_none, endT_some, go_sem, Int.reduceBEq, Int.reduceBNe, Int.reduceLE, Int.reduceLT, Int.reduceToNat, Nat.reduceAdd, Nat.reduceBEq, Nat.reduceBNe, Nat.reduceEqDiff, Nat.reduceLT, Nat.reduceLeDiff, Nat.reduceMul, Nat.reducePow, Nat.reduceSub, UInt8.reduceOfNat, reduceCtorEq, reduceIte, yieldU_some, cAny_enc, cByte_enc]
  refine loopYH_intro (ι := List UInt8) (α := Option (AV × AV) × List UInt8 × Ent) (fun x => (some x.2.1, [(5, .it 0), (0, .yld y)], [.it x.1 (encE cByte cAny x.2.2)]))
    (fun x => (x.2.1 ++ kO x.2.2).Perm (kO l)) (fun x => x.2.2.length) (none, [], l) (List.Perm.refl _) rfl ?_ ?_
  · simp (maxSteps := 4000000) only [↓wpY_H, ↓wpYH_skip, ↓wpYH_ret, ↓wpYH_exit, ↓wpYH_seq, ↓wpYH_cond, ↓wpYH_block, ↓wpYH_loop, ↓wpYH_region0, ↓wpYH_region1, regYH_none, regYH_some, runYH_nil, runYH_cons, ↓oneYH_eq, runYDH_nil, runYDH_cons, ↓tkC_eq, yarg, yselH_none, yselH_some, yieldH_some, ↓thenY_normal, ↓thenY_ret, ↓thenY_exit, ↓blockY_normal, ↓blockY_ret, ↓blockY_exit, ↓endY_normal, ↓endY_ret, endT_none, endT_some, go_sem, Int.reduceBEq, Int.reduceBNe, Int.reduceLE, Int.reduceLT, Int.reduceToNat, Nat.reduceAdd, Nat.reduceBEq, Nat.reduceBNe, Nat.reduceEqDiff, Nat.reduceLT, Nat.reduceLeDiff, Nat.reduceMul, Nat.reducePow, Nat.reduceSub, UInt8.reduceOfNat, reduceCtorEq, reduceIte]
  rintro ⟨c, t, left⟩ hp
  simp (maxSteps := 4000000) only [↓wpY_H, ↓wpYH_skip, ↓wpYH_ret, ↓wpYH_exit, ↓wpYH_seq, ↓wpYH_cond, ↓wpYH_block, ↓wpYH_loop, ↓wpYH_region0, ↓wpYH_region1, regYH_none, regYH_some, runYH_nil, runYH_cons, ↓oneYH_eq, runYDH_nil, runYDH_cons, ↓tkC_eq, yarg, yselH_none, yselH_some, yieldH_some, ↓thenY_normal, ↓thenY_ret, ↓thenY_exit, ↓blockY_normal, ↓blockY_ret, ↓blockY_exit, ↓endY_normal, ↓endY_ret, endT_none, endT_some, go_sem, Int.reduceBEq, Int.reduceBNe, Int.reduceLE, Int.reduceLT, Int.reduceToNat, Nat.reduceAdd, Nat.reduceBEq, Nat.reduceBNe, Nat.reduceEqDiff, Nat.reduceLT, Nat.reduceLeDiff, Nat.reduceMul, Nat.reducePow, Nat.reduceSub, UInt8.reduceOfNat, reduceCtorEq, reduceIte, yieldU_some, cAny_enc, cByte_enc]
  refine ⟨fun he => ?_, fun j p hj => ⟨rfl, t ++ [p.1], ⟨p.1, kO (left.eraseIdx j), rfl, rfl, ((erase_perm hj).symm.append_left t).trans hp⟩, (some (cByte.enc p.1, cAny.enc p.2), t ++ [p.1], left.eraseIdx j), ?_, ?_, rfl, rfl, rfl⟩⟩
  · subst he
    simpa [kO, keysD] using hp
  · rw [List.append_assoc]
    exact ((erase_perm hj).symm.append_left t).trans hp
  · have := (List.getElem?_eq_some_iff.1 hj).1
    show (left.eraseIdx j).length < left.length
    rw [List.length_eraseIdx_of_lt this]; omega
def kKeysP : C1 := C1.itU lKeys (fun _ => True) (fun d => keysT (kO d))
theorem ok_KeysP : C1OK Tryz.prog 125 kKeysP := C1OK.itU (by kernel_rfl) (fun d _ => it_KeysP d)
/-- The iterator, xs a value. -/
def aKeysP (l : Ent) : AV := .fn 125 [.rp [.fm (encE cByte cAny l)]]

set_option maxRecDepth 20000 in
set_option maxHeartbeats 4000000 in
theorem calls_AppendSeqP (l : Ent) (hl : l.length ≤ 256) : CallsE Tryz.prog 183 [.nls, aKeysP l] [] (fun t : List UInt8 => t.Perm (kO l)) (fun t => .own 0 1 t.length) (fun t => [.arr 5 1 (ofBytes t)]) := by
  refine callsE_of (mrg := true) (dyn := []) (CtrOK.cons ok_KeysP (CtrOK.nil _)) mixed Tryz.func183 rfl (by simp [Tryz.ntmps183, AV.cells]) (by kernel_rfl) ?_
  rw [show Tryz.f183.results.toList = [.tmp 4] from by kernel_rfl]
  unfold aKeysP
  simp (maxSteps := 4000000) only [go_sem, Int.reduceBEq, Int.reduceBNe, Int.reduceLE, Int.reduceLT, Int.reduceToNat, Nat.reduceAdd, Nat.reduceBEq, Nat.reduceBNe, Nat.reduceEqDiff, Nat.reduceLT, Nat.reduceLeDiff, Nat.reduceMul, Nat.reducePow, Nat.reduceSub, UInt8.reduceOfNat, reduceCtorEq, reduceIte, retE, kKeysP, lKeys_dec]
  rw [mark_eq]
  have hkl : (kO l).length ≤ 256 := by simpa [kO] using hl
  refine rangU_intro (X := ⟨List UInt8, [], keysR (kO l), keysD (kO l)⟩) [(2, .ptr 0 1 1 0 0)] [.arr 25 1 [.nls]]
    (fun t => ([(2, .ptr 0 1 1 0 0)], [.arr 25 1 [.own 1 1 t.length], .arr 5 1 (ofBytes t)])) (fun t => t.length ≤ 256) ?_ ?_ (Nat.zero_le _) ?_ ?_ ?_
  · simp (maxSteps := 4000000) only [go_sem, Int.reduceBEq, Int.reduceBNe, Int.reduceLE, Int.reduceLT, Int.reduceToNat, Nat.reduceAdd, Nat.reduceBEq, Nat.reduceBNe, Nat.reduceEqDiff, Nat.reduceLT, Nat.reduceLeDiff, Nat.reduceMul, Nat.reducePow, Nat.reduceSub, UInt8.reduceOfNat, reduceCtorEq, reduceIte, retE, kKeysP, lKeys_dec]
    exact subX_eq rfl rfl
  · simp (maxSteps := 4000000) only [go_sem, Int.reduceBEq, Int.reduceBNe, Int.reduceLE, Int.reduceLT, Int.reduceToNat, Nat.reduceAdd, Nat.reduceBEq, Nat.reduceBNe, Nat.reduceEqDiff, Nat.reduceLT, Nat.reduceLeDiff, Nat.reduceMul, Nat.reducePow, Nat.reduceSub, UInt8.reduceOfNat, reduceCtorEq, reduceIte, retE, kKeysP, lKeys_dec]
    exact ⟨by decide, subX_nls' rfl, rfl⟩
  · rintro t x t' ⟨c, left, rfl, rfl, hp⟩
    rfl
  · rintro t x t' ⟨c, left, rfl, rfl, hp⟩ ht
    have h1 := hp.length_eq
    rw [List.length_append, List.length_cons] at h1
    simp (maxSteps := 4000000) only [go_sem, Int.reduceBEq, Int.reduceBNe, Int.reduceLE, Int.reduceLT, Int.reduceToNat, Nat.reduceAdd, Nat.reduceBEq, Nat.reduceBNe, Nat.reduceEqDiff, Nat.reduceLT, Nat.reduceLeDiff, Nat.reduceMul, Nat.reducePow, Nat.reduceSub, UInt8.reduceOfNat, reduceCtorEq, reduceIte, retE, kKeysP, lKeys_dec]
    exact ⟨⟨by decide, by omega⟩, by omega, by decide, subX_own' rfl rfl, subX_eq rfl (pureB_bytes _)⟩
  · intro t hD ht
    simp (maxSteps := 4000000) only [go_sem, Int.reduceBEq, Int.reduceBNe, Int.reduceLE, Int.reduceLT, Int.reduceToNat, Nat.reduceAdd, Nat.reduceBEq, Nat.reduceBNe, Nat.reduceEqDiff, Nat.reduceLT, Nat.reduceLeDiff, Nat.reduceMul, Nat.reducePow, Nat.reduceSub, UInt8.reduceOfNat, reduceCtorEq, reduceIte, retE, kKeysP, lKeys_dec]
    exact ⟨t, hD, subX_eq rfl (pureB_bytes _), rfl⟩

/-- Sorted, where any order of the keys is sorted to the same list. -/
theorem calls_SortedP (l : Ent) (hl : l.length ≤ 12) (s : List UInt8) (hsl : s.length = l.length) (hs : ∀ t, t.Perm (kO l) → CallsR Tryz.prog 122 [.own 0 1 t.length] [.arr 5 1 (ofBytes t)] (.tuple []) [.arr 5 1 (ofBytes s)]) :
    CallsR Tryz.prog 84 [aKeysP l] [] (.own 0 1 s.length) [.arr 5 1 (ofBytes s)] := by
  intro E vals hr hv
  obtain ⟨g, rfl, kg⟩ := vrs_one hv
  refine (pass_Sorted E.W g (fun v w'' => ∃ E', E'.W = w'' ∧ VR E' (.own 0 1 s.length) v ∧ Rel [.arr 5 1 (ofBytes s)] E' ∧ Step [] E [.arr 5 1 (ofBytes s)] E') ?_).mono fun e W' ⟨v, he, E', h1, h2, h3, h4⟩ => ⟨v, E', he, h1, h2, h3, h4⟩
  refine pass_Collect E.W g _ ?_
  refine (calls_AppendSeqP l (by omega) E #[.slice none 0 0, g] hr ⟨rfl, fun i c hc => ?_⟩).mono fun e W' ⟨t, v, E1, hx, he, hW, hvr, hr1, hst⟩ => ⟨v, he, ?_⟩
  · match i, hc with
    | 0, hc => cases hc; exact .nls
    | 1, hc => cases hc; exact kg
    | i + 2, hc => simp at hc
  · subst hW
    have htl : t.length = s.length := by rw [hx.length_eq, hsl]; simp [kO]
    refine (hs t hx E1 #[v] hr1 ⟨rfl, fun i c hc => ?_⟩).mono fun e W'' ⟨u, E2, he, hW, _, hr2, hst2⟩ => ⟨⟨u, he⟩, E2, hW, ?_, ?_, ?_⟩
    · match i, hc with
      | 0, hc => cases hc; exact hvr
      | i + 1, hc => simp at hc
    · rw [← htl]; exact hvr.mono (hst2.ext hr1)
    · exact hr2
    · exact hst.trans hst2

theorem open_box {tB : TypeId} {f : FuncId} {l : Ent} (hp : (encE cByte cAny l).all (fun p => p.1.pureB && p.2.pureB) = true) (E : Env) (vals : Array Value) (hr : Rel [.arr tB 1 [.mp 1], .mp (encE cByte cAny l)] E) (hvs : VRs E [.fn f [.ptr 0 1 1 0 0]] vals) :
    ∃ st2 : Nat → Prop, (∀ b, st2 b → b < E.W.heap.size) ∧ VRs { W := E.W, M := fun _ => none, st := st2, hl := hlOf [] } [.fn f [.rp [.fm (encE cByte cAny l)]]] vals := by
  obtain ⟨u, rfl, k⟩ := vrs_one hvs
  obtain ⟨us, rfl, hus, husv⟩ := k.fn_inv
  have k0 := husv 0 _ rfl
  generalize hu0 : us.getD 0 Go.undef = u0 at k0
  cases k0 with
  | ptr _ _ _ _ _ a hm hl =>
    obtain ⟨b, hb, ha⟩ := (hl 1 (by rw [hr.hl]; rfl)).2 rfl
    subst ha
    rcases hr.orow 0 _ _ rfl hb with ⟨h, _⟩ | ⟨b', c, fz, h1, h2, h3, h4, h5⟩
    · cases h
    cases h1
    obtain ⟨w, hw, hwv⟩ := (h5 0 _ rfl).2 0 (.mp 1) rfl
    cases hwv with
    | mp _ bm hm' hl' =>
      have hbm := hl' (by rw [hr.hl]; rfl)
      obtain ⟨b2, a2, cl, g1, g2, g3, g4⟩ := hr.orow 1 _ _ rfl hbm
      cases g1
      refine ⟨fun x => E.st x ∨ x = b ∨ x = bm, ?_, ?_⟩
      · rintro x (h | rfl | rfl)
        · exact hr.stlt x h
        · exact (Array.getElem?_eq_some_iff.1 h2).1
        · exact (Array.getElem?_eq_some_iff.1 g2).1
      refine ⟨rfl, fun i cc hc => ?_⟩
      match i, hc with
      | i + 1, hc => simp at hc
      | 0, hc =>
        cases hc
        refine .fn _ _ _ (by simpa using hus) fun i cc hc => ?_
        match i, hc with
        | i + 1, hc => simp at hc
        | 0, hc =>
          cases hc
          rw [hu0]
          refine .rp _ b 0 (fun _ => .map (some bm)) (fun _ => .inr (.inl rfl)) (fun j cc hj => ?_) (fun j cc hj => ?_)
          · match j, hj with
            | j + 1, hj => simp at hj
            | 0, hj =>
              simp only [Nat.zero_mul, Nat.zero_add, Nat.add_zero] at hw ⊢
              simp [World.cell?, h2, hw]
          · match j, hj with
            | j + 1, hj => simp at hj
            | 0, hj =>
              cases hj
              exact .fm _ bm a2 cl (.inr (.inr rfl)) g2 g3.size g4 (fun i k x hi => by
                obtain ⟨e, q1, q2, q3⟩ := g3.ent i k x hi
                rw [Array.getD_eq_getD_getElem?, q1]
                exact q2.mono (fun _ h => .inl h) (fun _ _ => rfl)) (fun i k x hi => by
                obtain ⟨e, q1, q2, q3⟩ := g3.ent i k x hi
                rw [Array.getD_eq_getD_getElem?, q1]
                exact q3.mono (fun _ h => .inl h) (fun _ _ => rfl))

/-! ### The two calls -/
def regs2 : Ent := [(45, .agg [.int .i64 0, .sl 1 [.str [97]]]), (34, .agg [.int .i64 0, .sl 1 [.str [97]]])]
theorem sortE {n : Nat} {xs xs' : List UInt8} (h : evF Tryz.prog L00 n 122 [.own 0 1 xs.length] [.arr 5 1 (ofBytes xs)] = .ok (.tuple [], [.arr 5 1 (ofBytes xs')])) :
    CallsR Tryz.prog 122 [.own 0 1 xs.length] [.arr 5 1 (ofBytes xs)] (.tuple []) [.arr 5 1 (ofBytes xs')] := evF_ok L00_ok mixed _ _ _ _ _ _ h
theorem sort0 : CallsR Tryz.prog 122 [.own 0 1 ([] : List UInt8).length] [.arr 5 1 (ofBytes [])] (.tuple []) [.arr 5 1 (ofBytes [])] := sortE (n := 20) (by kernel_rfl)
theorem sort1 : CallsR Tryz.prog 122 [.own 0 1 ([45, 34] : List UInt8).length] [.arr 5 1 (ofBytes [45, 34])] (.tuple []) [.arr 5 1 (ofBytes [34, 45])] := sortE (n := 20) (by kernel_rfl)
theorem sort2 : CallsR Tryz.prog 122 [.own 0 1 ([34, 45] : List UInt8).length] [.arr 5 1 (ofBytes [34, 45])] (.tuple []) [.arr 5 1 (ofBytes [34, 45])] := sortE (n := 20) (by kernel_rfl)

theorem perm2 {t : List UInt8} (h : t.Perm [45, 34]) : t = [45, 34] ∨ t = [34, 45] := by
  match t, h with
  | [a, b], h =>
    have ha : a ∈ [45, 34] := h.subset (by simp)
    have hb : b ∈ [45, 34] := h.subset (by simp)
    simp only [List.mem_cons, List.not_mem_nil, or_false] at ha hb
    have h2 := h.symm.nodup (by decide : ([45, 34] : List UInt8).Nodup)
    rcases ha with rfl | rfl <;> rcases hb with rfl | rfl
    · simp at h2
    · exact .inl rfl
    · exact .inr rfl
    · simp at h2
  | [], h => simp at h
  | [a], h => simpa using h.length_eq
  | _ :: _ :: _ :: _, h => simpa using h.length_eq

theorem leaf_SortedR : CallsR Tryz.prog 84 [.fn 123 [.ptr 0 1 1 0 0]] [.arr 137 1 [.mp 1], .mp (encE cByte cAny regs2)]
    (.own 2 1 2) [.arr 137 1 [.mp 1], .mp (encE cByte cAny regs2), .arr 5 1 (ofBytes [34, 45])] :=
  callsR_wrap (calls_SortedR regs2 (by decide) [34, 45] rfl fun t ht => by
    rcases perm2 ht with rfl | rfl
    · exact sort1
    · exact sort2) (by intro v hv; simp only [ofBytes, List.map_cons, List.map_nil, List.mem_cons, List.not_mem_nil, or_false] at hv; rcases hv with rfl | rfl <;> exact ⟨_, _, rfl⟩)
    fun E vals hr hvs => open_box (by decide) E vals hr hvs
theorem leaf_SortedP : CallsR Tryz.prog 84 [.fn 125 [.ptr 0 1 1 0 0]] [.arr 140 1 [.mp 1], .mp []]
    (.own 2 1 0) [.arr 140 1 [.mp 1], .mp [], .arr 5 1 []] :=
  callsR_wrap (l := ofBytes []) (calls_SortedP [] (by decide) [] rfl fun t ht => by
    have : t = [] := by simpa [kO] using ht
    subst this
    exact sort0) (by intro v hv; simp [ofBytes] at hv)
    fun E vals hr hvs => open_box (l := []) rfl E vals hr hvs
end Go.Pg.Le
