/- Pg, part 31: a map that was only read is live again; its entries may hold what is fixed. -/
import Derived.Test.YtjbgnnggmngpcaaGreatDoorPgNd
set_option linter.unusedVariables false
set_option linter.unusedSimpArgs false
set_option linter.unusedSectionVars false
namespace Go.Pg
open Go
variable [Syms]
end Go.Pg
