/- The built-in functions copy and clear at elements of more cells than one. -/
import Derived.Laws.IdiomCopy
import Derived.Lib.SliceRun
set_option linter.unusedVariables false
set_option linter.unusedSimpArgs false
namespace Go.Pg
open Go
variable {P : Program}

end Go.Pg
