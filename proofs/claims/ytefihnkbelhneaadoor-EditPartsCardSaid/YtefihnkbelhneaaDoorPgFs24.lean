/- A text put into lines side by side, by the program. -/
import Derived.Test.YtefihnkbelhneaaDoorPgFs23
namespace Go.Pg
open Go Go.Proofs

def besideLine (col : Int) (x : List UInt8) (fill : Bool) (s : List UInt8) : List UInt8 :=
  let s' := if (decide ((s.length : Int) < col) && fill) = true then s ++ List.replicate (col - s.length).toNat 32 else s
  if (s'.length : Int) ≥ col then s'.take col.toNat ++ x ++ s'.drop col.toNat else s'

def besideBad (ls : Ls) (a b col : Int) (x : List UInt8) : Bool := decide (a < 0) || decide (a > b) || decide (b ≥ ls.length) || decide (col < 0) || decide (col > 4096) || has10 x

def beside (ls : Ls) (a b col : Int) (x : List UInt8) (fill : Bool) : Ch × Bool :=
  if besideBad ls a b col x = true then ((0, [], []), false)
  else ((a, cutL ls a.toNat (b + 1).toNat, (cutL ls a.toNat (b + 1).toNat).map (besideLine col x fill)), true)

def kBeside : C1 := C1.by [.sl 1 [], .id, .id, .id, .id, .id] (lCons cStrs (lCons (cInt .i64) (lCons (cInt .i64) (lCons (cInt .i64) (lCons cStr (lOne cBool)))))) (fun d => small d.1 ∧ d.2.2.2.2.1.length ≤ 1048576)
  (fun d => .tuple [aCh (beside d.1 d.2.1 d.2.2.1 d.2.2.2.1 d.2.2.2.2.1 d.2.2.2.2.2).1, .bool (beside d.1 d.2.1 d.2.2.1 d.2.2.2.1 d.2.2.2.2.1 d.2.2.2.2.2).2]) (fun _ => [])
end Go.Pg
