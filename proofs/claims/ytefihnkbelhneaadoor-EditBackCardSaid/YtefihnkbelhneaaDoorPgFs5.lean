/- A line's change; what a key does. -/
import Derived.Test.YtefihnkbelhneaaDoorPgFs4
namespace Go.Pg
open Go Go.Proofs

def kLine : C1 := C1.by [.sl 1 [], .id, .sl 1 []] (lCons cStrs (lCons (cAgg (lCons (cInt .i64) (lOne (cInt .i64)))) (lOne cStrs)))
  (fun d => 0 ≤ d.2.1.1 ∧ d.2.1.1 < d.1.length)
  (fun d => .agg [.int .i64 d.2.1.1, .sl 1 [.str (d.1.getD d.2.1.1.toNat [])], .sl 1 (d.2.2.map .str)]) (fun _ => [])
def kWrite : C1 := C1.by [.sl 1 [], .id, .sl 1 []] (lCons cStrs (lCons (cAgg (lCons (cInt .i64) (lOne (cInt .i64)))) (lOne cStrs)))
  (fun d => small d.1 ∧ small d.2.2)
  (fun d => .tuple [aCh (write d.1 d.2.1.1 d.2.1.2 d.2.2).1, aPos (write d.1 d.2.1.1 d.2.1.2 d.2.2).2.1, .bool (write d.1 d.2.1.1 d.2.1.2 d.2.2).2.2]) (fun _ => [])
theorem ok_Write : C1OK Tryd.prog 13 kWrite := C1OK.by (by kernel_rfl) (fun d h => calls_Write d.1 d.2.2 d.2.1.1 d.2.1.2 h.1 h.2) (fun _ => rfl) (fun _ => rfl)

def kLetter : C1 := C1.by [.id] (lOne (cInt .u8)) (fun _ => True) (fun n => .bool (letter n)) (fun _ => [])
theorem ok_RPlace : C1OK Tryd.prog 34 kPlace := C1OK.by (by kernel_rfl) (fun d _ => calls_RPlace d.1 d.2.1 d.2.2) (fun _ => rfl) (fun _ => rfl)

abbrev Typed := (Int × Ls × Ls) × (Int × Int) × Bool
def nothing : Typed := ((0, [], []), (0, 0), false)

/-- What a key does. -/
def typ (ls : Ls) (p f : Int × Int) (m : Int) (k : UInt8) : Typed :=
  let c : Int := k.toNat
  if (place ls p.1 p.2 && (m == 1 || m == 2)) = true then
    let s := ls.getD p.1.toNat []
    let a := s.take p.2.toNat
    let b := s.drop p.2.toNat
    if letter c = true then ((p.1, [s], [a ++ [k] ++ (if (m == 2) = true then b.drop 1 else b)]), (p.1, p.2 + 1), true)
    else if (c == 13 || c == 10) = true then ((p.1, [s], [a, b]), (p.1 + 1, 0), true)
    else if ((c == 8 || c == 127) && m == 1 && decide (p.2 > 0) && (p.1 != f.1 || decide (p.2 > f.2))) = true then ((p.1, [s], [s.take (p.2 - 1).toNat ++ b]), (p.1, p.2 - 1), true)
    else nothing
  else nothing

end Go.Pg
