/- Keys are typed, one by one; the chapter's example. -/
import Derived.Test.YtefihnkbelhneaaDoorPgFs6
import Derived.Test.YtefihnkbelhneaaDoorPgFs8
import Derived.Test.YtefihnkbelhneaaDoorPgFs9
namespace Go.Pg
open Go Go.Proofs

abbrev lPos : CdL (Int × Int) := lCons (cInt .i64) (lOne (cInt .i64))
abbrev lTyp : CdL (Ls × (Int × Int) × (Int × Int) × Int × UInt8) := lCons cStrs (lCons (cAgg lPos) (lCons (cAgg lPos) (lCons (cInt .i64) (lOne cByte))))
def aTyped (t : Typed) : AV := .tuple [aCh t.1, aPos t.2.1, .bool t.2.2]
def kTyp : C1 := C1.by [.sl 1 [], .id, .id, .id, .id] lTyp (fun d => small d.1) (fun d => aTyped (typ d.1 d.2.1 d.2.2.1 d.2.2.2.1 d.2.2.2.2)) (fun _ => [])
theorem known1 : typ [[97, 98]] (0, 1) (0, 1) 1 120 = ((0, [[97, 98]], [[97, 120, 98]]), (0, 2), true) := by decide
theorem known2 : typ [[97, 98]] (0, 1) (0, 1) 1 8 = nothing := by decide
theorem known3 : typ [[97, 98]] (0, 1) (0, 0) 2 13 = ((0, [[97, 98]], [[97], [98]]), (1, 0), true) := by decide
theorem known4 : net [97, 8, 98] = [98] := by decide

def kKnown : C1 := C1.by [] lNil (fun _ => True) (fun _ => .bool true) (fun _ => [])
end Go.Pg
