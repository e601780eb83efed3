/- Facts of the program that each row needs. -/
import Derived.Test.YtddkekepoimcpaaGreatDoorPgRowk
import Derived.Test.YtddkekepoimcpaaGreatDoorRows
import Derived.KernelRfl
set_option linter.unusedVariables false
set_option linter.unusedSimpArgs false
namespace Go.Proofs.YtddkekepoimcpaaGreatDoor
open Go Go.Pg
theorem Tryz.own : ownKnob Tryz.prog.godebug = none := by kernel_rfl
theorem laidOut : laidOutB Tryz.prog = true := by kernel_rfl
end Go.Proofs.YtddkekepoimcpaaGreatDoor
