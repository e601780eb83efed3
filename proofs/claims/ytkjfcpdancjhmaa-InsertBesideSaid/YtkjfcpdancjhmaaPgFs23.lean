/- A text put into lines side by side: the parts. -/
import Derived.Test.YtkjfcpdancjhmaaPgFs22
namespace Go.Pg
open Go Go.Proofs

def has10 (x : List UInt8) : Bool := x.any (· == 10)
def kContains : C1 := C1.by [.id, .id] (lCons cStr (lOne cStr)) (fun d => d.2 = [10]) (fun d => .bool (has10 d.1)) (fun _ => [])
theorem ok_Contains : C1OK Try.prog 71 kContains := C1OK.by (by kernel_rfl) (fun d h => by
  obtain ⟨a, b⟩ := d
  simp only at h
  subst h
  exact calls_Contains1 a 10) (fun _ => rfl) (fun _ => rfl)
def kRepeat : C1 := C1.by [.id, .id] (lCons cStr (lOne (cInt .i64))) (fun d => d.1 = [32] ∧ 0 ≤ d.2 ∧ d.2 ≤ 140737488355328) (fun d => .str (List.replicate d.2.toNat 32)) (fun _ => [])
theorem ok_Repeat : C1OK Try.prog 73 kRepeat := C1OK.by (by kernel_rfl) (fun d h => by
  obtain ⟨a, b⟩ := d
  simp only at h
  obtain ⟨rfl, h1, h2⟩ := h
  exact calls_Repeat1 32 b h1 h2) (fun _ => rfl) (fun _ => rfl)

theorem calls_HPlace (k n : Int) (h0 : 0 < n) (h1 : n ≤ 9223372036854775807) (hk : -9223372036854775808 ≤ k ∧ k ≤ 9223372036854775807) :
    CallsR Try.prog 45 [.int .i64 k, .int .i64 n] [] (.int .i64 (k % n)) [] := by
  refine callsR_of (mrg := true) (dyn := []) (CtrOK.nil _) mixed Try.func45 rfl (by simp [Try.ntmps45]) (by kernel_rfl) ?_
  rw [show Try.f45.results.toList = [.tmp 4] from by kernel_rfl]
  simp (maxSteps := 4000000) only [↓wpA_H, ↓wpH_skip, ↓wpH_ret, ↓wpH_seq, ↓wpH_cond, ↓wpH_region, iselH_if, bselH_false, runH_nil, runH_cons, gw, gselH_plain, cselH_bool, ↓chk, justK, ↓oneK, ↓pureK, envOf, ↓thenA_normal, ↓stepEv, opnd, Pg.look, binK, intOp, Bool.false_eq_true, implies_true, true_and, and_true, valV, heapV, footV, binV, intV, ofV, ofLeaf, retA, resK, tupA, subA, subQ, ptrsE, frzO, subF, subG, pickOf, frzE, frzC, frz0, frzH, Pg.freeze, List.foldl_nil, subOs, subEv, subV, reduceCtorEq, Nat.reduceEqDiff, List.append_nil, List.length_nil, Nat.zero_add, ite_true, ite_false, decide_eq_true_eq, decide_eq_false_iff_not, Int.not_lt, ne_eq, and_self, pickOK_nil, List.contains_nil]
  have a1 := Int.emod_nonneg k (b := n) (by omega)
  have a2 := Int.emod_lt_of_pos k (b := n) h0
  have a3 : k.tmod n = k % n ∨ k.tmod n = k % n - n := by
    rw [Int.tmod_eq_emod]
    split
    · left; omega
    · right; omega
  refine ⟨by omega, fun h => ?_, fun h => ?_⟩
  · rw [wrap64 (by omega) (by omega)]; omega
  · omega

def kHPlace : C1 := C1.by [.id, .id] (lCons (cInt .i64) (lOne (cInt .i64))) (fun d => 0 < d.2 ∧ d.2 ≤ 9223372036854775807 ∧ -9223372036854775808 ≤ d.1 ∧ d.1 ≤ 9223372036854775807) (fun d => .int .i64 (d.1 % d.2)) (fun _ => [])
theorem ok_HPlace : C1OK Try.prog 45 kHPlace := C1OK.by (by kernel_rfl) (fun d h => calls_HPlace d.1 d.2 h.1 h.2.1 h.2.2) (fun _ => rfl) (fun _ => rfl)

theorem calls_spaces (n : Int) (h1 : n ≤ 1048576) : CallsR Try.prog 74 [.int .i64 n] [] (.str (List.replicate n.toNat 32)) [] := by
  refine callsR_of (mrg := true) (dyn := []) (CtrOK.nil _) mixed Try.func74 rfl (by simp [Try.ntmps74]) (by kernel_rfl) ?_
  rw [show Try.f74.results.toList = [.tmp 2] from by kernel_rfl]
  simp (maxSteps := 4000000) only [↓wpA_H, ↓wpH_seq, ↓wpH_block, ↓wpH_loop, ↓wpH_region, bselH_false, runH_nil, runH_cons, gw, gselH_plain, ↓chk, justK, ↓oneK, ↓pureK, envOf, ↓thenA_normal, ↓stepEv, opnd, Bool.false_eq_true, implies_true, true_and, valV, heapV, footV, ofV, ofLeaf, List.length_nil, and_self, List.contains_nil]
  refine loopH_intro (α := Nat) (fun i => ([(0, .int .i64 n), (2, .str []), (3, .str (List.replicate i 32)), (4, .int .i64 i)], [])) (fun i => i ≤ n.toNat) (fun i => n.toNat - i) 0 (by omega) ?_ ?_
  · simp (maxSteps := 4000000) only [Pg.look, true_and, and_true, subA, subQ, ptrsE, frzO, subF, subG, pickOf, frzE, frzC, frz0, frzH, Pg.freeze, List.foldl_nil, subOs, subEv, subV, reduceCtorEq, Nat.reduceEqDiff, List.append_nil, ite_true, ite_false, and_self, pickOK_nil, Int.cast_ofNat_Int]
    all_goals rfl
  · intro i hi
    simp (maxSteps := 4000000) only [↓wpA_H, ↓wpH_skip, ↓wpH_ret, ↓wpH_exit, ↓wpH_seq, ↓wpH_cond, ↓wpH_block, ↓wpH_region, iselH_if, bselH_false, runH_nil, runH_cons, gw, gselH_plain, cselH_bool, ↓chk, justK, ↓oneK, ↓pureK, ↓thenA_normal, ↓thenA_exit, ↓blockA_normal, ↓blockA_exit, ↓stepEv, opnd, Pg.look, binK, intOp, strOp, Bool.false_eq_true, implies_true, true_and, and_true, valV, heapV, footV, binV, intV, strV, ofV, ofLeaf, retA, resK, tupA, subA, subQ, ptrsE, frzO, subF, subG, pickOf, frzE, frzC, frz0, frzH, Pg.freeze, List.foldl_nil, subOs, subEv, subV, reduceCtorEq, Nat.reduceEqDiff, List.append_nil, List.length_cons, List.length_nil, Nat.zero_add, ite_true, ite_false, decide_eq_true_eq, decide_eq_false_iff_not, Int.not_lt, and_self, pickOK_nil, List.contains_nil, Nat.reduceLeDiff, List.length_replicate]
    refine ⟨fun h => ⟨by omega, i + 1, by omega, by omega, by rw [List.replicate_succ'], by rw [wrap64 (by omega) (by omega)]; omega⟩, fun h => ?_⟩
    have : i = n.toNat := by omega
    rw [this]

def kSpaces : C1 := C1.by [.id] (lOne (cInt .i64)) (fun n => n ≤ 1048576) (fun n => .str (List.replicate n.toNat 32)) (fun _ => [])
theorem ok_spaces : C1OK Try.prog 74 kSpaces := C1OK.by (by kernel_rfl) (fun d h => calls_spaces d h) (fun _ => rfl) (fun _ => rfl)
end Go.Pg
