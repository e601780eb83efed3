/- A text put into lines side by side: the parts. -/
import Derived.Test.YtefihnkbelhneaaDoorPgFs22
namespace Go.Pg
open Go Go.Proofs

def has10 (x : List UInt8) : Bool := x.any (· == 10)
def kContains : C1 := C1.by [.id, .id] (lCons cStr (lOne cStr)) (fun d => d.2 = [10]) (fun d => .bool (has10 d.1)) (fun _ => [])
def kRepeat : C1 := C1.by [.id, .id] (lCons cStr (lOne (cInt .i64))) (fun d => d.1 = [32] ∧ 0 ≤ d.2 ∧ d.2 ≤ 140737488355328) (fun d => .str (List.replicate d.2.toNat 32)) (fun _ => [])
theorem ok_Repeat : C1OK Tryd.prog 61 kRepeat := C1OK.by (by kernel_rfl) (fun d h => by
  obtain ⟨a, b⟩ := d
  simp only at h
  obtain ⟨rfl, h1, h2⟩ := h
  exact calls_Repeat1 32 b h1 h2) (fun _ => rfl) (fun _ => rfl)

theorem calls_HPlace (k n : Int) (h0 : 0 < n) (h1 : n ≤ 9223372036854775807) (hk : -9223372036854775808 ≤ k ∧ k ≤ 9223372036854775807) :
    CallsR Tryd.prog 18 [.int .i64 k, .int .i64 n] [] (.int .i64 (k % n)) [] := by
  refine callsR_of (mrg := true) (dyn := []) (CtrOK.nil _) mixed Tryd.func18 rfl (by simp [Tryd.ntmps18]) (by kernel_rfl) ?_
  rw [show Tryd.f18.results.toList = [.tmp 4] from by kernel_rfl]
  simp (maxSteps := 4000000) only [↓wpA_H, ↓wpH_skip, ↓wpH_ret, ↓wpH_seq, ↓wpH_cond, ↓wpH_region, iselH_if, bselH_false, runH_nil, runH_cons, gw, gselH_plain, cselH_bool, ↓chk, justK, ↓oneK, ↓pureK, envOf, ↓thenA_normal, ↓stepEv, opnd, Pg.look, binK, intOp, Bool.false_eq_true, implies_true, true_and, and_true, valV, heapV, footV, binV, intV, ofV, ofLeaf, retA, resK, tupA, subA, subQ, ptrsE, frzO, subF, subG, pickOf, frzE, frzC, frz0, frzH, Pg.freeze, List.foldl_nil, subOs, subEv, subV_succ, subM, reduceCtorEq, Nat.reduceEqDiff, List.append_nil, List.length_nil, Nat.zero_add, ite_true, ite_false, decide_eq_true_eq, decide_eq_false_iff_not, Int.not_lt, ne_eq, and_self, pickOK_nil, List.contains_nil]
  have a1 := Int.emod_nonneg k (b := n) (by omega)
  have a2 := Int.emod_lt_of_pos k (b := n) h0
  have a3 : k.tmod n = k % n ∨ k.tmod n = k % n - n := by
    rw [Int.tmod_eq_emod]
    split
    · left; omega
    · right; omega
  refine ⟨by omega, fun h => ?_, fun h => ?_⟩
  · rw [wrap64 (by omega) (by omega)]; omega
  · omega

def kHPlace : C1 := C1.by [.id, .id] (lCons (cInt .i64) (lOne (cInt .i64))) (fun d => 0 < d.2 ∧ d.2 ≤ 9223372036854775807 ∧ -9223372036854775808 ≤ d.1 ∧ d.1 ≤ 9223372036854775807) (fun d => .int .i64 (d.1 % d.2)) (fun _ => [])
theorem ok_HPlace : C1OK Tryd.prog 18 kHPlace := C1OK.by (by kernel_rfl) (fun d h => calls_HPlace d.1 d.2 h.1 h.2.1 h.2.2) (fun _ => rfl) (fun _ => rfl)

def kSpaces : C1 := C1.by [.id] (lOne (cInt .i64)) (fun n => n ≤ 1048576) (fun n => .str (List.replicate n.toNat 32)) (fun _ => [])
end Go.Pg
