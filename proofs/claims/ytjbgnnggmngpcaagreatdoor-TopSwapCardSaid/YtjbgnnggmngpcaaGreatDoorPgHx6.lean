/- TopSwap: runs. (Printed by mkfz.py.) -/
import Derived.Test.YtjbgnnggmngpcaaGreatDoorPgHx3
set_option linter.unusedVariables false
set_option linter.unusedSimpArgs false
set_option linter.unusedSectionVars false
namespace Go.Pg
open Go Go.Proofs
variable (l:List UInt8) (at' len:Int) (F s:Tb.Bs) (size size2 fc fs:Int) (ls:List Tb.Bs) (c0 c2 c3:List Pc) (t0 t2:List Int) (A2 A3:Tb.Bs)
set_option maxRecDepth 100000 in
theorem runZ11:((List.range 10).all fun k=>chkZ (@evF (sZ l at' len F s size size2 fc fs ls c0 c2 c3 t0 t2 A2 A3 (tblZ 11 k)) Tryz.prog (@Lf.rows (rowsZ 11 k) kZ) 60 3 [.sym 0,.sym 1] []))=true:=by kernel_rfl
set_option maxRecDepth 100000 in
theorem runZ12:((List.range 11).all fun k=>chkZ (@evF (sZ l at' len F s size size2 fc fs ls c0 c2 c3 t0 t2 A2 A3 (tblZ 12 k)) Tryz.prog (@Lf.rows (rowsZ 12 k) kZ) 60 3 [.sym 0,.sym 1] []))=true:=by kernel_rfl
end Go.Pg
