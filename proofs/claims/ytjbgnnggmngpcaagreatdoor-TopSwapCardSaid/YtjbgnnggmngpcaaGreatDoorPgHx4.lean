/- TopSwap: runs. (Printed by mkfz.py.) -/
import Derived.Test.YtjbgnnggmngpcaaGreatDoorPgHx3
set_option linter.unusedVariables false
set_option linter.unusedSimpArgs false
set_option linter.unusedSectionVars false
open List renaming range → Qa
namespace Go.Pg
open Go Go.Proofs
variable (l:List UInt8) (at' len:Int) (F s:Tb.Bs) (size size2 fc fs:Int) (ls:List Tb.Bs) (c0 c2 c3:List Pc) (t0 t2:List Int) (A2 A3:Tb.Bs)
set_option maxRecDepth 100000 in
theorem runZ2:((Qa 1).all fun k=>chkZ (@evF (sZ l at' len F s size size2 fc fs ls c0 c2 c3 t0 t2 A2 A3 (tblZ 2 k)) Tryz.prog (@Lf.rows (rowsZ 2 k) kZ) 60 3 [.sym 0,.sym 1] []))=true:=by kernel_rfl
set_option maxRecDepth 100000 in
theorem runZ3:((Qa 2).all fun k=>chkZ (@evF (sZ l at' len F s size size2 fc fs ls c0 c2 c3 t0 t2 A2 A3 (tblZ 3 k)) Tryz.prog (@Lf.rows (rowsZ 3 k) kZ) 60 3 [.sym 0,.sym 1] []))=true:=by kernel_rfl
set_option maxRecDepth 100000 in
theorem runZ4:((Qa 3).all fun k=>chkZ (@evF (sZ l at' len F s size size2 fc fs ls c0 c2 c3 t0 t2 A2 A3 (tblZ 4 k)) Tryz.prog (@Lf.rows (rowsZ 4 k) kZ) 60 3 [.sym 0,.sym 1] []))=true:=by kernel_rfl
set_option maxRecDepth 100000 in
theorem runZ5:((Qa 4).all fun k=>chkZ (@evF (sZ l at' len F s size size2 fc fs ls c0 c2 c3 t0 t2 A2 A3 (tblZ 5 k)) Tryz.prog (@Lf.rows (rowsZ 5 k) kZ) 60 3 [.sym 0,.sym 1] []))=true:=by kernel_rfl
set_option maxRecDepth 100000 in
theorem runZ6:((Qa 5).all fun k=>chkZ (@evF (sZ l at' len F s size size2 fc fs ls c0 c2 c3 t0 t2 A2 A3 (tblZ 6 k)) Tryz.prog (@Lf.rows (rowsZ 6 k) kZ) 60 3 [.sym 0,.sym 1] []))=true:=by kernel_rfl
set_option maxRecDepth 100000 in
theorem runZ7:((Qa 6).all fun k=>chkZ (@evF (sZ l at' len F s size size2 fc fs ls c0 c2 c3 t0 t2 A2 A3 (tblZ 7 k)) Tryz.prog (@Lf.rows (rowsZ 7 k) kZ) 60 3 [.sym 0,.sym 1] []))=true:=by kernel_rfl
set_option maxRecDepth 100000 in
theorem runZ8:((Qa 7).all fun k=>chkZ (@evF (sZ l at' len F s size size2 fc fs ls c0 c2 c3 t0 t2 A2 A3 (tblZ 8 k)) Tryz.prog (@Lf.rows (rowsZ 8 k) kZ) 60 3 [.sym 0,.sym 1] []))=true:=by kernel_rfl
end Go.Pg
