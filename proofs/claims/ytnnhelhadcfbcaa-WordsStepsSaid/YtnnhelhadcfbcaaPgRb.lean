/- Facts of the program that each row needs. -/
import Derived.Test.YtnnhelhadcfbcaaPgRowk
import Derived.Test.YtnnhelhadcfbcaaRows
import Derived.KernelRfl
namespace Go.Proofs.Ytnnhelhadcfbcaa
open Go Go.Pg
theorem Try.own : ownKnob Try.prog.godebug = none := by kernel_rfl
theorem laidOut : laidOutB Try.prog = true := by kernel_rfl
end Go.Proofs.Ytnnhelhadcfbcaa
