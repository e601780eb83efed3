/- Pg, part 31: a map that was only read is live again; its entries may hold what is fixed. -/
import Derived.Test.YtddkekepoimcpaaGreatDoorPgNd
set_option linter.unusedVariables false
set_option linter.unusedSimpArgs false
namespace Go.Pg
open Go

end Go.Pg
