/- Pg, part 21: a slice is held against nil. -/
import Derived.Test.YtkkcfkggfpoagaaGreatPgDat
set_option linter.unusedVariables false
set_option linter.unusedSimpArgs false
namespace Go.Pg
open Go
end Go.Pg
