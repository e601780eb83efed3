/- Facts of the program that each row needs. -/
import Derived.Test.YtombifgcpghkgaaPgRowk
import Derived.Test.YtombifgcpghkgaaRows
import Derived.KernelRfl
namespace Go.Proofs.Ytombifgcpghkgaa
open Go Go.Pg
theorem Try.own : ownKnob Try.prog.godebug = none := by kernel_rfl
theorem laidOut : laidOutB Try.prog = true := by kernel_rfl
end Go.Proofs.Ytombifgcpghkgaa
