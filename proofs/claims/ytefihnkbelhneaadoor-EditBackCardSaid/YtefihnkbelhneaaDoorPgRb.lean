/- Facts of the program that each row needs. -/
import Derived.Test.YtefihnkbelhneaaDoorPgRowk
import Derived.Test.YtefihnkbelhneaaDoorRows
import Derived.KernelRfl
namespace Go.Proofs.YtefihnkbelhneaaDoor
open Go Go.Pg
theorem Tryd.own : ownKnob Tryd.prog.godebug = none := by kernel_rfl
theorem laidOut : laidOutB Tryd.prog = true := by kernel_rfl
end Go.Proofs.YtefihnkbelhneaaDoor
