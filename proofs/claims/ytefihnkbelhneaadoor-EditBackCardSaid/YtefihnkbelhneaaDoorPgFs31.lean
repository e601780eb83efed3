/- Small parts of the document's motions. -/
import Derived.Test.YtefihnkbelhneaaDoorPgFs30
namespace Go.Pg
open Go Go.Proofs

abbrev Mv := (Int × Int) × Int × Bool × Int
def aMv (m : Mv) : AV := .agg [.int .i64 m.1.1, .int .i64 m.1.2, .int .i64 m.2.1, .bool m.2.2.1, .int .i64 m.2.2.2]
def aMove (r : Mv × Bool) : AV := .tuple [aMv r.1, .bool r.2]
def mNone : Mv × Bool := (((0, 0), 0, false, 0), false)
def mTo (p : Int × Int) (way : Int) : Mv × Bool := ((p, way, false, -1), true)

abbrev lPos2 : CdL (Int × Int) := lCons (cInt .i64) (lOne (cInt .i64))
abbrev cPos2 : Cd (Int × Int) := cAgg lPos2
def kOf : C1 := C1.by [.id, .id] (lCons (cInt .u8) (lOne cBool)) (fun _ => True) (fun d => .int .i64 (cls d.1 d.2)) (fun _ => [])
theorem ok_Of : C1OK Tryd.prog 57 kOf := C1OK.by (by kernel_rfl) (fun d _ => calls_Of d.1 d.2) (fun _ => rfl) (fun _ => rfl)
theorem ok_ROf : C1OK Tryd.prog 22 kOf := C1OK.by (by kernel_rfl) (fun d _ => calls_ROf d.1 d.2) (fun _ => rfl) (fun _ => rfl)
def kLess : C1 := C1.by [.id, .id] (lCons cPos2 (lOne cPos2)) (fun _ => True) (fun d => .bool (less d.1 d.2)) (fun _ => [])
theorem ok_Less : C1OK Tryd.prog 59 kLess := C1OK.by (by kernel_rfl) (fun d _ => calls_Less d.1 d.2) (fun _ => rfl) (fun _ => rfl)
theorem ok_RLess : C1OK Tryd.prog 60 kLess := C1OK.by (by kernel_rfl) (fun d _ => calls_RLess d.1 d.2) (fun _ => rfl) (fun _ => rfl)
def kRPlace : C1 := C1.by [.sl 1 [], .id] (lCons cStrs (lOne cPos2)) (fun _ => True) (fun d => .bool (place d.1 d.2.1 d.2.2)) (fun _ => [])
theorem ok_R5Place : C1OK Tryd.prog 34 kRPlace := C1OK.by (by kernel_rfl) (fun d _ => calls_RPlace d.1 d.2.1 d.2.2) (fun _ => rfl) (fun _ => rfl)
theorem ok_CPlace : C1OK Tryd.prog 31 kRPlace := C1OK.by (by kernel_rfl) (fun d _ => calls_Place d.1 d.2.1 d.2.2) (fun _ => rfl) (fun _ => rfl)

def may (ls : Ls) (p : Int × Int) (n : Int) : Bool := place ls p.1 p.2 && decide (n ≥ 1)
def kNone : C1 := C1.by [] lNil (fun _ => True) (fun _ => aMove mNone) (fun _ => [])
def nth (l : List (Int × Int)) (n way : Int) : Mv × Bool := if n > l.length then mNone else mTo (l.getD (n - 1).toNat (0, 0)) way
def kMay : C1 := C1.by [.sl 1 [], .id, .id] (lCons cStrs (lCons cPos2 (lOne (cInt .i64)))) (fun _ => True) (fun d => .bool (may d.1 d.2.1 d.2.2)) (fun _ => [])
def kTo : C1 := C1.by [.id, .id] (lCons (cInt .i64) (lOne (cInt .i64))) (fun _ => True) (fun d => aMove (mTo (d.1, d.2) 0)) (fun _ => [])
def kNth : C1 := C1.by [.sl 2 [], .id, .id] (lCons (cSl 2 cPos2) (lCons (cInt .i64) (lOne (cInt .i64)))) (fun d => 1 ≤ d.2.1 ∧ d.1.length ≤ 140737488355328) (fun d => aMove (nth d.1 d.2.1 d.2.2)) (fun _ => [])
def kEnd : C1 := C1.by [.sl 1 []] (lOne cStrs) (fun d => 0 < d.length ∧ d.length ≤ 140737488355328) (fun d => aPos (d.length - 1, (d.getD (d.length - 1) []).length)) (fun _ => [])
end Go.Pg
