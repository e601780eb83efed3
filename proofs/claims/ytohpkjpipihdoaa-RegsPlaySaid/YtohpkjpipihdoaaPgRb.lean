/- Facts of the program that each row needs. -/
import Derived.Test.YtohpkjpipihdoaaPgRowk
import Derived.Test.YtohpkjpipihdoaaRows
import Derived.KernelRfl
namespace Go.Proofs.Ytohpkjpipihdoaa
open Go Go.Pg
theorem Try.own : ownKnob Try.prog.godebug = none := by kernel_rfl
theorem laidOut : laidOutB Try.prog = true := by kernel_rfl
end Go.Proofs.Ytohpkjpipihdoaa
