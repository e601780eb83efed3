/- Facts of the program that each row needs. -/
import Derived.Test.YtjbgnnggmngpcaaGreatDoorPgGr
import Derived.Test.YtjbgnnggmngpcaaGreatDoorRows
import Derived.KernelRfl
set_option linter.unusedVariables false
set_option linter.unusedSimpArgs false
set_option linter.unusedSectionVars false
namespace Go.Proofs.YtjbgnnggmngpcaaGreatDoor
open Go Go.Pg
variable [Syms]
theorem Tryz.own:ownKnob Tryz.prog.godebug=none:=by kernel_rfl
theorem laidOut:laidOutB Tryz.prog=true:=by kernel_rfl
end Go.Proofs.YtjbgnnggmngpcaaGreatDoor
