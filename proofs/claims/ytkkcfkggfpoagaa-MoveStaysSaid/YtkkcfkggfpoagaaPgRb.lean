/- Facts of the program that each row needs. -/
import Derived.Test.YtkkcfkggfpoagaaPgRowk
import Derived.Test.YtkkcfkggfpoagaaRows
import Derived.KernelRfl
namespace Go.Proofs.Ytkkcfkggfpoagaa
open Go Go.Pg
theorem Try.own : ownKnob Try.prog.godebug = none := by kernel_rfl
theorem laidOut : laidOutB Try.prog = true := by kernel_rfl
end Go.Proofs.Ytkkcfkggfpoagaa
