/- Facts of the program's types, by the kernel. -/
import Derived.Test.YtddkekepoimcpaaGreatDoorPgLst
import Derived.Test.YtddkekepoimcpaaGreatDoorProg
import Derived.KernelRfl
set_option linter.unusedVariables false
set_option linter.unusedSimpArgs false
namespace Go.Pg
open Go Go.Proofs
theorem mixed : Tryz.prog.follows .mixedOrders = true := by kernel_rfl
@[go_sem] theorem tk1 : tk Tryz.prog 1 = TK.leaf := by kernel_rfl
@[go_sem] theorem tz1 : tz Tryz.prog 1 = AV.nfn := by kernel_rfl
@[go_sem] theorem dz1 : dz Tryz.prog 1 = AV.nfn := by kernel_rfl
@[go_sem] theorem tk2 : tk Tryz.prog 2 = TK.int IntKind.i64 := by kernel_rfl
@[go_sem] theorem tz2 : tz Tryz.prog 2 = AV.int IntKind.i64 0 := by kernel_rfl
@[go_sem] theorem dz2 : dz Tryz.prog 2 = AV.int IntKind.i64 0 := by kernel_rfl
@[go_sem] theorem eb2 : eb Tryz.prog 2 = some 8 := by kernel_rfl
@[go_sem] theorem eq2 : eqK Tryz.prog 2 = some [1] := by kernel_rfl
@[go_sem] theorem tk3 : tk Tryz.prog 3 = TK.int IntKind.i64 := by kernel_rfl
@[go_sem] theorem tz3 : tz Tryz.prog 3 = AV.int IntKind.i64 0 := by kernel_rfl
@[go_sem] theorem dz3 : dz Tryz.prog 3 = AV.int IntKind.i64 0 := by kernel_rfl
@[go_sem] theorem eb3 : eb Tryz.prog 3 = some 8 := by kernel_rfl
@[go_sem] theorem eq3 : eqK Tryz.prog 3 = some [1] := by kernel_rfl
@[go_sem] theorem tk4 : tk Tryz.prog 4 = TK.bool := by kernel_rfl
@[go_sem] theorem tz4 : tz Tryz.prog 4 = AV.bool false := by kernel_rfl
@[go_sem] theorem dz4 : dz Tryz.prog 4 = AV.bool false := by kernel_rfl
@[go_sem] theorem eb4 : eb Tryz.prog 4 = some 1 := by kernel_rfl
@[go_sem] theorem eq4 : eqK Tryz.prog 4 = some [0] := by kernel_rfl
@[go_sem] theorem tk5 : tk Tryz.prog 5 = TK.int IntKind.u8 := by kernel_rfl
@[go_sem] theorem tz5 : tz Tryz.prog 5 = AV.int IntKind.u8 0 := by kernel_rfl
@[go_sem] theorem dz5 : dz Tryz.prog 5 = AV.int IntKind.u8 0 := by kernel_rfl
@[go_sem] theorem eb5 : eb Tryz.prog 5 = some 1 := by kernel_rfl
@[go_sem] theorem eq5 : eqK Tryz.prog 5 = some [1] := by kernel_rfl
@[go_sem] theorem tk6 : tk Tryz.prog 6 = TK.int IntKind.u8 := by kernel_rfl
@[go_sem] theorem tz6 : tz Tryz.prog 6 = AV.int IntKind.u8 0 := by kernel_rfl
@[go_sem] theorem dz6 : dz Tryz.prog 6 = AV.int IntKind.u8 0 := by kernel_rfl
@[go_sem] theorem eb6 : eb Tryz.prog 6 = some 1 := by kernel_rfl
@[go_sem] theorem eq6 : eqK Tryz.prog 6 = some [1] := by kernel_rfl
@[go_sem] theorem tk7 : tk Tryz.prog 7 = TK.struct 4 [some (0, 1), some (1, 1), some (2, 1), some (3, 1)] := by kernel_rfl
@[go_sem] theorem tz7 : tz Tryz.prog 7 = AV.agg [AV.int IntKind.i64 0, AV.int IntKind.i64 0, AV.bool false, AV.int IntKind.u8 0] := by kernel_rfl
@[go_sem] theorem dz7 : dz Tryz.prog 7 = AV.agg [AV.int IntKind.i64 0, AV.int IntKind.i64 0, AV.bool false, AV.int IntKind.u8 0] := by kernel_rfl
@[go_sem] theorem eb7 : eb Tryz.prog 7 = some 24 := by kernel_rfl
@[go_sem] theorem eq7 : eqK Tryz.prog 7 = some [1, 1, 0, 1] := by kernel_rfl
@[go_sem] theorem tk8 : tk Tryz.prog 8 = TK.struct 4 [some (0, 1), some (1, 1), some (2, 1), some (3, 1)] := by kernel_rfl
@[go_sem] theorem tz8 : tz Tryz.prog 8 = AV.agg [AV.int IntKind.i64 0, AV.int IntKind.i64 0, AV.bool false, AV.int IntKind.u8 0] := by kernel_rfl
@[go_sem] theorem dz8 : dz Tryz.prog 8 = AV.agg [AV.int IntKind.i64 0, AV.int IntKind.i64 0, AV.bool false, AV.int IntKind.u8 0] := by kernel_rfl
@[go_sem] theorem eb8 : eb Tryz.prog 8 = some 24 := by kernel_rfl
@[go_sem] theorem eq8 : eqK Tryz.prog 8 = some [1, 1, 0, 1] := by kernel_rfl
@[go_sem] theorem tk9 : tk Tryz.prog 9 = TK.str := by kernel_rfl
@[go_sem] theorem tz9 : tz Tryz.prog 9 = AV.str [] := by kernel_rfl
@[go_sem] theorem dz9 : dz Tryz.prog 9 = AV.str [] := by kernel_rfl
@[go_sem] theorem eb9 : eb Tryz.prog 9 = some 16 := by kernel_rfl
@[go_sem] theorem eq9 : eqK Tryz.prog 9 = some [2] := by kernel_rfl
@[go_sem] theorem tk10 : tk Tryz.prog 10 = TK.str := by kernel_rfl
@[go_sem] theorem tz10 : tz Tryz.prog 10 = AV.str [] := by kernel_rfl
@[go_sem] theorem dz10 : dz Tryz.prog 10 = AV.str [] := by kernel_rfl
@[go_sem] theorem eb10 : eb Tryz.prog 10 = some 16 := by kernel_rfl
@[go_sem] theorem eq10 : eqK Tryz.prog 10 = some [2] := by kernel_rfl
@[go_sem] theorem tk11 : tk Tryz.prog 11 = TK.str := by kernel_rfl
@[go_sem] theorem tz11 : tz Tryz.prog 11 = AV.str [] := by kernel_rfl
@[go_sem] theorem dz11 : dz Tryz.prog 11 = AV.str [] := by kernel_rfl
@[go_sem] theorem eb11 : eb Tryz.prog 11 = some 16 := by kernel_rfl
@[go_sem] theorem eq11 : eqK Tryz.prog 11 = some [2] := by kernel_rfl
@[go_sem] theorem tk12 : tk Tryz.prog 12 = TK.int IntKind.u64 := by kernel_rfl
@[go_sem] theorem tz12 : tz Tryz.prog 12 = AV.int IntKind.u64 0 := by kernel_rfl
@[go_sem] theorem dz12 : dz Tryz.prog 12 = AV.int IntKind.u64 0 := by kernel_rfl
@[go_sem] theorem eb12 : eb Tryz.prog 12 = some 8 := by kernel_rfl
@[go_sem] theorem eq12 : eqK Tryz.prog 12 = some [1] := by kernel_rfl
@[go_sem] theorem tk13 : tk Tryz.prog 13 = TK.struct 2 [some (0, 1), some (1, 1)] := by kernel_rfl
@[go_sem] theorem tz13 : tz Tryz.prog 13 = AV.agg [AV.str [], AV.int IntKind.u64 0] := by kernel_rfl
@[go_sem] theorem dz13 : dz Tryz.prog 13 = AV.agg [AV.str [], AV.int IntKind.u64 0] := by kernel_rfl
@[go_sem] theorem eb13 : eb Tryz.prog 13 = some 24 := by kernel_rfl
@[go_sem] theorem tk14 : tk Tryz.prog 14 = TK.struct 2 [some (0, 1), some (1, 1)] := by kernel_rfl
@[go_sem] theorem tz14 : tz Tryz.prog 14 = AV.agg [AV.str [], AV.int IntKind.u64 0] := by kernel_rfl
@[go_sem] theorem dz14 : dz Tryz.prog 14 = AV.agg [AV.str [], AV.int IntKind.u64 0] := by kernel_rfl
@[go_sem] theorem eb14 : eb Tryz.prog 14 = some 24 := by kernel_rfl
@[go_sem] theorem tk15 : tk Tryz.prog 15 = TK.leaf := by kernel_rfl
@[go_sem] theorem tz15 : tz Tryz.prog 15 = AV.npt := by kernel_rfl
@[go_sem] theorem dz15 : dz Tryz.prog 15 = AV.npt := by kernel_rfl
@[go_sem] theorem pt15 : ptrT Tryz.prog 15 = true := by kernel_rfl
@[go_sem] theorem tk16 : tk Tryz.prog 16 = TK.leaf := by kernel_rfl
@[go_sem] theorem tz16 : tz Tryz.prog 16 = AV.npt := by kernel_rfl
@[go_sem] theorem dz16 : dz Tryz.prog 16 = AV.npt := by kernel_rfl
@[go_sem] theorem pt16 : ptrT Tryz.prog 16 = true := by kernel_rfl
@[go_sem] theorem tk17 : tk Tryz.prog 17 = TK.leaf := by kernel_rfl
@[go_sem] theorem tz17 : tz Tryz.prog 17 = AV.npt := by kernel_rfl
@[go_sem] theorem dz17 : dz Tryz.prog 17 = AV.npt := by kernel_rfl
@[go_sem] theorem pt17 : ptrT Tryz.prog 17 = true := by kernel_rfl
@[go_sem] theorem tk18 : tk Tryz.prog 18 = TK.struct 1 [some (0, 1)] := by kernel_rfl
@[go_sem] theorem tz18 : tz Tryz.prog 18 = AV.agg [AV.npt] := by kernel_rfl
@[go_sem] theorem dz18 : dz Tryz.prog 18 = AV.agg [AV.npt] := by kernel_rfl
@[go_sem] theorem eb18 : eb Tryz.prog 18 = some 8 := by kernel_rfl
@[go_sem] theorem tk19 : tk Tryz.prog 19 = TK.struct 1 [some (0, 1)] := by kernel_rfl
@[go_sem] theorem tz19 : tz Tryz.prog 19 = AV.agg [AV.npt] := by kernel_rfl
@[go_sem] theorem dz19 : dz Tryz.prog 19 = AV.agg [AV.npt] := by kernel_rfl
@[go_sem] theorem eb19 : eb Tryz.prog 19 = some 8 := by kernel_rfl
@[go_sem] theorem tk20 : tk Tryz.prog 20 = TK.leaf := by kernel_rfl
@[go_sem] theorem tk21 : tk Tryz.prog 21 = TK.int IntKind.i32 := by kernel_rfl
@[go_sem] theorem tz21 : tz Tryz.prog 21 = AV.int IntKind.i32 0 := by kernel_rfl
@[go_sem] theorem dz21 : dz Tryz.prog 21 = AV.int IntKind.i32 0 := by kernel_rfl
@[go_sem] theorem eb21 : eb Tryz.prog 21 = some 4 := by kernel_rfl
@[go_sem] theorem eq21 : eqK Tryz.prog 21 = some [1] := by kernel_rfl
@[go_sem] theorem tk22 : tk Tryz.prog 22 = TK.slice 9 1 := by kernel_rfl
@[go_sem] theorem tz22 : tz Tryz.prog 22 = AV.nls := by kernel_rfl
@[go_sem] theorem dz22 : dz Tryz.prog 22 = AV.sl 1 [] := by kernel_rfl
@[go_sem] theorem eb22 : eb Tryz.prog 22 = some 24 := by kernel_rfl
@[go_sem] theorem tk23 : tk Tryz.prog 23 = TK.struct 2 [some (0, 1), some (1, 1)] := by kernel_rfl
@[go_sem] theorem tz23 : tz Tryz.prog 23 = AV.agg [AV.int IntKind.i64 0, AV.int IntKind.i64 0] := by kernel_rfl
@[go_sem] theorem dz23 : dz Tryz.prog 23 = AV.agg [AV.int IntKind.i64 0, AV.int IntKind.i64 0] := by kernel_rfl
@[go_sem] theorem eb23 : eb Tryz.prog 23 = some 16 := by kernel_rfl
@[go_sem] theorem eq23 : eqK Tryz.prog 23 = some [1, 1] := by kernel_rfl
@[go_sem] theorem tk24 : tk Tryz.prog 24 = TK.struct 2 [some (0, 1), some (1, 1)] := by kernel_rfl
@[go_sem] theorem tz24 : tz Tryz.prog 24 = AV.agg [AV.int IntKind.i64 0, AV.int IntKind.i64 0] := by kernel_rfl
@[go_sem] theorem dz24 : dz Tryz.prog 24 = AV.agg [AV.int IntKind.i64 0, AV.int IntKind.i64 0] := by kernel_rfl
@[go_sem] theorem eb24 : eb Tryz.prog 24 = some 16 := by kernel_rfl
@[go_sem] theorem eq24 : eqK Tryz.prog 24 = some [1, 1] := by kernel_rfl
@[go_sem] theorem tk25 : tk Tryz.prog 25 = TK.slice 5 1 := by kernel_rfl
@[go_sem] theorem tz25 : tz Tryz.prog 25 = AV.nls := by kernel_rfl
@[go_sem] theorem dz25 : dz Tryz.prog 25 = AV.sl 1 [] := by kernel_rfl
@[go_sem] theorem eb25 : eb Tryz.prog 25 = some 24 := by kernel_rfl
@[go_sem] theorem tk26 : tk Tryz.prog 26 = TK.slice 33 2 := by kernel_rfl
@[go_sem] theorem tz26 : tz Tryz.prog 26 = AV.nls := by kernel_rfl
@[go_sem] theorem dz26 : dz Tryz.prog 26 = AV.sl 2 [] := by kernel_rfl
@[go_sem] theorem eb26 : eb Tryz.prog 26 = some 24 := by kernel_rfl
@[go_sem] theorem tk27 : tk Tryz.prog 27 = TK.slice 24 2 := by kernel_rfl
@[go_sem] theorem tz27 : tz Tryz.prog 27 = AV.nls := by kernel_rfl
@[go_sem] theorem dz27 : dz Tryz.prog 27 = AV.sl 2 [] := by kernel_rfl
@[go_sem] theorem eb27 : eb Tryz.prog 27 = some 24 := by kernel_rfl
@[go_sem] theorem tk28 : tk Tryz.prog 28 = TK.struct 16 [some (0, 1), some (1, 2), some (3, 1), some (4, 1), some (5, 2), some (7, 1), some (8, 1), some (9, 1), some (10, 1), some (11, 1), some (12, 1), some (13, 1), some (14, 1), some (15, 1)] := by kernel_rfl
@[go_sem] theorem tz28 : tz Tryz.prog 28 = AV.agg [AV.nls, AV.int IntKind.i64 0, AV.int IntKind.i64 0, AV.int IntKind.i64 0, AV.int IntKind.i64 0, AV.int IntKind.i64 0, AV.int IntKind.i64 0, AV.bool false, AV.int IntKind.i64 0, AV.nls, AV.nls, AV.nls, AV.nls, AV.nls, AV.int IntKind.i64 0, AV.int IntKind.u8 0] := by kernel_rfl
@[go_sem] theorem dz28 : dz Tryz.prog 28 = AV.agg [AV.sl 1 [], AV.int IntKind.i64 0, AV.int IntKind.i64 0, AV.int IntKind.i64 0, AV.int IntKind.i64 0, AV.int IntKind.i64 0, AV.int IntKind.i64 0, AV.bool false, AV.int IntKind.i64 0, AV.sl 1 [], AV.sl 2 [], AV.sl 1 [], AV.sl 2 [], AV.sl 2 [], AV.int IntKind.i64 0, AV.int IntKind.u8 0] := by kernel_rfl
@[go_sem] theorem eb28 : eb Tryz.prog 28 = some 224 := by kernel_rfl
@[go_sem] theorem tk29 : tk Tryz.prog 29 = TK.struct 16 [some (0, 1), some (1, 2), some (3, 1), some (4, 1), some (5, 2), some (7, 1), some (8, 1), some (9, 1), some (10, 1), some (11, 1), some (12, 1), some (13, 1), some (14, 1), some (15, 1)] := by kernel_rfl
@[go_sem] theorem tz29 : tz Tryz.prog 29 = AV.agg [AV.nls, AV.int IntKind.i64 0, AV.int IntKind.i64 0, AV.int IntKind.i64 0, AV.int IntKind.i64 0, AV.int IntKind.i64 0, AV.int IntKind.i64 0, AV.bool false, AV.int IntKind.i64 0, AV.nls, AV.nls, AV.nls, AV.nls, AV.nls, AV.int IntKind.i64 0, AV.int IntKind.u8 0] := by kernel_rfl
@[go_sem] theorem dz29 : dz Tryz.prog 29 = AV.agg [AV.sl 1 [], AV.int IntKind.i64 0, AV.int IntKind.i64 0, AV.int IntKind.i64 0, AV.int IntKind.i64 0, AV.int IntKind.i64 0, AV.int IntKind.i64 0, AV.bool false, AV.int IntKind.i64 0, AV.sl 1 [], AV.sl 2 [], AV.sl 1 [], AV.sl 2 [], AV.sl 2 [], AV.int IntKind.i64 0, AV.int IntKind.u8 0] := by kernel_rfl
@[go_sem] theorem eb29 : eb Tryz.prog 29 = some 224 := by kernel_rfl
@[go_sem] theorem tk30 : tk Tryz.prog 30 = TK.leaf := by kernel_rfl
@[go_sem] theorem tz30 : tz Tryz.prog 30 = AV.nfn := by kernel_rfl
@[go_sem] theorem dz30 : dz Tryz.prog 30 = AV.nfn := by kernel_rfl
@[go_sem] theorem tk31 : tk Tryz.prog 31 = TK.leaf := by kernel_rfl
@[go_sem] theorem tz31 : tz Tryz.prog 31 = AV.nfn := by kernel_rfl
@[go_sem] theorem dz31 : dz Tryz.prog 31 = AV.nfn := by kernel_rfl
@[go_sem] theorem tk32 : tk Tryz.prog 32 = TK.struct 2 [some (0, 1), some (1, 1)] := by kernel_rfl
@[go_sem] theorem tz32 : tz Tryz.prog 32 = AV.agg [AV.int IntKind.i64 0, AV.nls] := by kernel_rfl
@[go_sem] theorem dz32 : dz Tryz.prog 32 = AV.agg [AV.int IntKind.i64 0, AV.sl 1 []] := by kernel_rfl
@[go_sem] theorem eb32 : eb Tryz.prog 32 = some 32 := by kernel_rfl
@[go_sem] theorem tk33 : tk Tryz.prog 33 = TK.struct 2 [some (0, 1), some (1, 1)] := by kernel_rfl
@[go_sem] theorem tz33 : tz Tryz.prog 33 = AV.agg [AV.int IntKind.i64 0, AV.nls] := by kernel_rfl
@[go_sem] theorem dz33 : dz Tryz.prog 33 = AV.agg [AV.int IntKind.i64 0, AV.sl 1 []] := by kernel_rfl
@[go_sem] theorem eb33 : eb Tryz.prog 33 = some 32 := by kernel_rfl
@[go_sem] theorem tk34 : tk Tryz.prog 34 = TK.leaf := by kernel_rfl
@[go_sem] theorem tz34 : tz Tryz.prog 34 = AV.nfn := by kernel_rfl
@[go_sem] theorem dz34 : dz Tryz.prog 34 = AV.nfn := by kernel_rfl
@[go_sem] theorem tk35 : tk Tryz.prog 35 = TK.leaf := by kernel_rfl
@[go_sem] theorem tz35 : tz Tryz.prog 35 = AV.nfn := by kernel_rfl
@[go_sem] theorem dz35 : dz Tryz.prog 35 = AV.nfn := by kernel_rfl
@[go_sem] theorem tk36 : tk Tryz.prog 36 = TK.leaf := by kernel_rfl
@[go_sem] theorem tz36 : tz Tryz.prog 36 = AV.nfn := by kernel_rfl
@[go_sem] theorem dz36 : dz Tryz.prog 36 = AV.nfn := by kernel_rfl
@[go_sem] theorem tk37 : tk Tryz.prog 37 = TK.leaf := by kernel_rfl
@[go_sem] theorem tz37 : tz Tryz.prog 37 = AV.nfn := by kernel_rfl
@[go_sem] theorem dz37 : dz Tryz.prog 37 = AV.nfn := by kernel_rfl
@[go_sem] theorem tk39 : tk Tryz.prog 39 = TK.leaf := by kernel_rfl
@[go_sem] theorem tz39 : tz Tryz.prog 39 = AV.nfn := by kernel_rfl
@[go_sem] theorem dz39 : dz Tryz.prog 39 = AV.nfn := by kernel_rfl
@[go_sem] theorem tk40 : tk Tryz.prog 40 = TK.leaf := by kernel_rfl
@[go_sem] theorem tz40 : tz Tryz.prog 40 = AV.nfn := by kernel_rfl
@[go_sem] theorem dz40 : dz Tryz.prog 40 = AV.nfn := by kernel_rfl
@[go_sem] theorem tk41 : tk Tryz.prog 41 = TK.leaf := by kernel_rfl
@[go_sem] theorem tz41 : tz Tryz.prog 41 = AV.nfn := by kernel_rfl
@[go_sem] theorem dz41 : dz Tryz.prog 41 = AV.nfn := by kernel_rfl
@[go_sem] theorem tk42 : tk Tryz.prog 42 = TK.leaf := by kernel_rfl
@[go_sem] theorem tz42 : tz Tryz.prog 42 = AV.nfn := by kernel_rfl
@[go_sem] theorem dz42 : dz Tryz.prog 42 = AV.nfn := by kernel_rfl
@[go_sem] theorem tk43 : tk Tryz.prog 43 = TK.leaf := by kernel_rfl
@[go_sem] theorem tz43 : tz Tryz.prog 43 = AV.nfn := by kernel_rfl
@[go_sem] theorem dz43 : dz Tryz.prog 43 = AV.nfn := by kernel_rfl
@[go_sem] theorem tk44 : tk Tryz.prog 44 = TK.leaf := by kernel_rfl
@[go_sem] theorem tz44 : tz Tryz.prog 44 = AV.nfn := by kernel_rfl
@[go_sem] theorem dz44 : dz Tryz.prog 44 = AV.nfn := by kernel_rfl
@[go_sem] theorem tk45 : tk Tryz.prog 45 = TK.leaf := by kernel_rfl
@[go_sem] theorem tz45 : tz Tryz.prog 45 = AV.nfn := by kernel_rfl
@[go_sem] theorem dz45 : dz Tryz.prog 45 = AV.nfn := by kernel_rfl
@[go_sem] theorem tk47 : tk Tryz.prog 47 = TK.leaf := by kernel_rfl
@[go_sem] theorem tz47 : tz Tryz.prog 47 = AV.nfn := by kernel_rfl
@[go_sem] theorem dz47 : dz Tryz.prog 47 = AV.nfn := by kernel_rfl
@[go_sem] theorem tk48 : tk Tryz.prog 48 = TK.leaf := by kernel_rfl
@[go_sem] theorem tz48 : tz Tryz.prog 48 = AV.npt := by kernel_rfl
@[go_sem] theorem dz48 : dz Tryz.prog 48 = AV.npt := by kernel_rfl
@[go_sem] theorem pt48 : ptrT Tryz.prog 48 = true := by kernel_rfl
@[go_sem] theorem tk49 : tk Tryz.prog 49 = TK.int IntKind.i64 := by kernel_rfl
@[go_sem] theorem tz49 : tz Tryz.prog 49 = AV.int IntKind.i64 0 := by kernel_rfl
@[go_sem] theorem dz49 : dz Tryz.prog 49 = AV.int IntKind.i64 0 := by kernel_rfl
@[go_sem] theorem eb49 : eb Tryz.prog 49 = some 8 := by kernel_rfl
@[go_sem] theorem eq49 : eqK Tryz.prog 49 = some [1] := by kernel_rfl
@[go_sem] theorem tk51 : tk Tryz.prog 51 = TK.leaf := by kernel_rfl
@[go_sem] theorem tz51 : tz Tryz.prog 51 = AV.nfn := by kernel_rfl
@[go_sem] theorem dz51 : dz Tryz.prog 51 = AV.nfn := by kernel_rfl
@[go_sem] theorem tk52 : tk Tryz.prog 52 = TK.leaf := by kernel_rfl
@[go_sem] theorem tz52 : tz Tryz.prog 52 = AV.nfn := by kernel_rfl
@[go_sem] theorem dz52 : dz Tryz.prog 52 = AV.nfn := by kernel_rfl
@[go_sem] theorem tk53 : tk Tryz.prog 53 = TK.leaf := by kernel_rfl
@[go_sem] theorem tz53 : tz Tryz.prog 53 = AV.nfn := by kernel_rfl
@[go_sem] theorem dz53 : dz Tryz.prog 53 = AV.nfn := by kernel_rfl
@[go_sem] theorem tk54 : tk Tryz.prog 54 = TK.leaf := by kernel_rfl
@[go_sem] theorem tz54 : tz Tryz.prog 54 = AV.nfn := by kernel_rfl
@[go_sem] theorem dz54 : dz Tryz.prog 54 = AV.nfn := by kernel_rfl
@[go_sem] theorem tk55 : tk Tryz.prog 55 = TK.leaf := by kernel_rfl
@[go_sem] theorem tz55 : tz Tryz.prog 55 = AV.nfn := by kernel_rfl
@[go_sem] theorem dz55 : dz Tryz.prog 55 = AV.nfn := by kernel_rfl
@[go_sem] theorem tk56 : tk Tryz.prog 56 = TK.leaf := by kernel_rfl
@[go_sem] theorem tz56 : tz Tryz.prog 56 = AV.nfn := by kernel_rfl
@[go_sem] theorem dz56 : dz Tryz.prog 56 = AV.nfn := by kernel_rfl
@[go_sem] theorem tk57 : tk Tryz.prog 57 = TK.leaf := by kernel_rfl
@[go_sem] theorem tz57 : tz Tryz.prog 57 = AV.npt := by kernel_rfl
@[go_sem] theorem dz57 : dz Tryz.prog 57 = AV.npt := by kernel_rfl
@[go_sem] theorem pt57 : ptrT Tryz.prog 57 = true := by kernel_rfl
@[go_sem] theorem tk58 : tk Tryz.prog 58 = TK.struct 2 [some (0, 1), some (1, 1)] := by kernel_rfl
@[go_sem] theorem tz58 : tz Tryz.prog 58 = AV.agg [AV.npt, AV.nls] := by kernel_rfl
@[go_sem] theorem dz58 : dz Tryz.prog 58 = AV.agg [AV.npt, AV.sl 1 []] := by kernel_rfl
@[go_sem] theorem eb58 : eb Tryz.prog 58 = some 32 := by kernel_rfl
@[go_sem] theorem tk59 : tk Tryz.prog 59 = TK.struct 2 [some (0, 1), some (1, 1)] := by kernel_rfl
@[go_sem] theorem tz59 : tz Tryz.prog 59 = AV.agg [AV.npt, AV.nls] := by kernel_rfl
@[go_sem] theorem dz59 : dz Tryz.prog 59 = AV.agg [AV.npt, AV.sl 1 []] := by kernel_rfl
@[go_sem] theorem eb59 : eb Tryz.prog 59 = some 32 := by kernel_rfl
@[go_sem] theorem tk60 : tk Tryz.prog 60 = TK.leaf := by kernel_rfl
@[go_sem] theorem tz60 : tz Tryz.prog 60 = AV.nfn := by kernel_rfl
@[go_sem] theorem dz60 : dz Tryz.prog 60 = AV.nfn := by kernel_rfl
@[go_sem] theorem tk61 : tk Tryz.prog 61 = TK.leaf := by kernel_rfl
@[go_sem] theorem tk62 : tk Tryz.prog 62 = TK.leaf := by kernel_rfl
@[go_sem] theorem tk64 : tk Tryz.prog 64 = TK.leaf := by kernel_rfl
@[go_sem] theorem tz64 : tz Tryz.prog 64 = AV.nfn := by kernel_rfl
@[go_sem] theorem dz64 : dz Tryz.prog 64 = AV.nfn := by kernel_rfl
@[go_sem] theorem tk65 : tk Tryz.prog 65 = TK.leaf := by kernel_rfl
@[go_sem] theorem tz65 : tz Tryz.prog 65 = AV.nfn := by kernel_rfl
@[go_sem] theorem dz65 : dz Tryz.prog 65 = AV.nfn := by kernel_rfl
@[go_sem] theorem tk67 : tk Tryz.prog 67 = TK.leaf := by kernel_rfl
@[go_sem] theorem tz67 : tz Tryz.prog 67 = AV.nfn := by kernel_rfl
@[go_sem] theorem dz67 : dz Tryz.prog 67 = AV.nfn := by kernel_rfl
@[go_sem] theorem tk68 : tk Tryz.prog 68 = TK.leaf := by kernel_rfl
@[go_sem] theorem tz68 : tz Tryz.prog 68 = AV.nfn := by kernel_rfl
@[go_sem] theorem dz68 : dz Tryz.prog 68 = AV.nfn := by kernel_rfl
@[go_sem] theorem tk69 : tk Tryz.prog 69 = TK.leaf := by kernel_rfl
@[go_sem] theorem tz69 : tz Tryz.prog 69 = AV.npt := by kernel_rfl
@[go_sem] theorem dz69 : dz Tryz.prog 69 = AV.npt := by kernel_rfl
@[go_sem] theorem pt69 : ptrT Tryz.prog 69 = true := by kernel_rfl
@[go_sem] theorem tk71 : tk Tryz.prog 71 = TK.leaf := by kernel_rfl
@[go_sem] theorem tz71 : tz Tryz.prog 71 = AV.nfn := by kernel_rfl
@[go_sem] theorem dz71 : dz Tryz.prog 71 = AV.nfn := by kernel_rfl
@[go_sem] theorem tk72 : tk Tryz.prog 72 = TK.struct 1 [some (0, 1)] := by kernel_rfl
@[go_sem] theorem tz72 : tz Tryz.prog 72 = AV.agg [AV.npt] := by kernel_rfl
@[go_sem] theorem dz72 : dz Tryz.prog 72 = AV.agg [AV.npt] := by kernel_rfl
@[go_sem] theorem eb72 : eb Tryz.prog 72 = some 8 := by kernel_rfl
@[go_sem] theorem tk73 : tk Tryz.prog 73 = TK.struct 1 [some (0, 1)] := by kernel_rfl
@[go_sem] theorem tz73 : tz Tryz.prog 73 = AV.agg [AV.npt] := by kernel_rfl
@[go_sem] theorem dz73 : dz Tryz.prog 73 = AV.agg [AV.npt] := by kernel_rfl
@[go_sem] theorem eb73 : eb Tryz.prog 73 = some 8 := by kernel_rfl
@[go_sem] theorem tk74 : tk Tryz.prog 74 = TK.leaf := by kernel_rfl
@[go_sem] theorem tz74 : tz Tryz.prog 74 = AV.npt := by kernel_rfl
@[go_sem] theorem dz74 : dz Tryz.prog 74 = AV.npt := by kernel_rfl
@[go_sem] theorem pt74 : ptrT Tryz.prog 74 = true := by kernel_rfl
@[go_sem] theorem tk75 : tk Tryz.prog 75 = TK.leaf := by kernel_rfl
@[go_sem] theorem tz75 : tz Tryz.prog 75 = AV.nfn := by kernel_rfl
@[go_sem] theorem dz75 : dz Tryz.prog 75 = AV.nfn := by kernel_rfl
@[go_sem] theorem tk76 : tk Tryz.prog 76 = TK.leaf := by kernel_rfl
@[go_sem] theorem tz76 : tz Tryz.prog 76 = AV.npt := by kernel_rfl
@[go_sem] theorem dz76 : dz Tryz.prog 76 = AV.npt := by kernel_rfl
@[go_sem] theorem pt76 : ptrT Tryz.prog 76 = true := by kernel_rfl
@[go_sem] theorem tk77 : tk Tryz.prog 77 = TK.leaf := by kernel_rfl
@[go_sem] theorem tz77 : tz Tryz.prog 77 = AV.nfn := by kernel_rfl
@[go_sem] theorem dz77 : dz Tryz.prog 77 = AV.nfn := by kernel_rfl
@[go_sem] theorem tk78 : tk Tryz.prog 78 = TK.struct 7 [some (0, 1), some (1, 1), some (2, 1), some (3, 1), some (4, 1), some (5, 1), some (6, 1)] := by kernel_rfl
@[go_sem] theorem tz78 : tz Tryz.prog 78 = AV.agg [AV.npt, AV.npt, AV.npt, AV.int IntKind.u8 0, AV.nls, AV.int IntKind.u8 0, AV.bool false] := by kernel_rfl
@[go_sem] theorem dz78 : dz Tryz.prog 78 = AV.agg [AV.npt, AV.npt, AV.npt, AV.int IntKind.u8 0, AV.sl 1 [], AV.int IntKind.u8 0, AV.bool false] := by kernel_rfl
@[go_sem] theorem eb78 : eb Tryz.prog 78 = some 64 := by kernel_rfl
@[go_sem] theorem tk79 : tk Tryz.prog 79 = TK.struct 7 [some (0, 1), some (1, 1), some (2, 1), some (3, 1), some (4, 1), some (5, 1), some (6, 1)] := by kernel_rfl
@[go_sem] theorem tz79 : tz Tryz.prog 79 = AV.agg [AV.npt, AV.npt, AV.npt, AV.int IntKind.u8 0, AV.nls, AV.int IntKind.u8 0, AV.bool false] := by kernel_rfl
@[go_sem] theorem dz79 : dz Tryz.prog 79 = AV.agg [AV.npt, AV.npt, AV.npt, AV.int IntKind.u8 0, AV.sl 1 [], AV.int IntKind.u8 0, AV.bool false] := by kernel_rfl
@[go_sem] theorem eb79 : eb Tryz.prog 79 = some 64 := by kernel_rfl
@[go_sem] theorem tk80 : tk Tryz.prog 80 = TK.leaf := by kernel_rfl
@[go_sem] theorem tz80 : tz Tryz.prog 80 = AV.nfn := by kernel_rfl
@[go_sem] theorem dz80 : dz Tryz.prog 80 = AV.nfn := by kernel_rfl
@[go_sem] theorem tk81 : tk Tryz.prog 81 = TK.leaf := by kernel_rfl
@[go_sem] theorem tz81 : tz Tryz.prog 81 = AV.nfn := by kernel_rfl
@[go_sem] theorem dz81 : dz Tryz.prog 81 = AV.nfn := by kernel_rfl
@[go_sem] theorem tk82 : tk Tryz.prog 82 = TK.leaf := by kernel_rfl
@[go_sem] theorem tz82 : tz Tryz.prog 82 = AV.nfn := by kernel_rfl
@[go_sem] theorem dz82 : dz Tryz.prog 82 = AV.nfn := by kernel_rfl
@[go_sem] theorem tk83 : tk Tryz.prog 83 = TK.leaf := by kernel_rfl
@[go_sem] theorem tz83 : tz Tryz.prog 83 = AV.npt := by kernel_rfl
@[go_sem] theorem dz83 : dz Tryz.prog 83 = AV.npt := by kernel_rfl
@[go_sem] theorem pt83 : ptrT Tryz.prog 83 = true := by kernel_rfl
@[go_sem] theorem tk84 : tk Tryz.prog 84 = TK.leaf := by kernel_rfl
@[go_sem] theorem tz84 : tz Tryz.prog 84 = AV.nfn := by kernel_rfl
@[go_sem] theorem dz84 : dz Tryz.prog 84 = AV.nfn := by kernel_rfl
@[go_sem] theorem tk85 : tk Tryz.prog 85 = TK.leaf := by kernel_rfl
@[go_sem] theorem tz85 : tz Tryz.prog 85 = AV.npt := by kernel_rfl
@[go_sem] theorem dz85 : dz Tryz.prog 85 = AV.npt := by kernel_rfl
@[go_sem] theorem pt85 : ptrT Tryz.prog 85 = true := by kernel_rfl
@[go_sem] theorem tk87 : tk Tryz.prog 87 = TK.leaf := by kernel_rfl
@[go_sem] theorem tz87 : tz Tryz.prog 87 = AV.nfn := by kernel_rfl
@[go_sem] theorem dz87 : dz Tryz.prog 87 = AV.nfn := by kernel_rfl
@[go_sem] theorem tk88 : tk Tryz.prog 88 = TK.leaf := by kernel_rfl
@[go_sem] theorem tz88 : tz Tryz.prog 88 = AV.npt := by kernel_rfl
@[go_sem] theorem dz88 : dz Tryz.prog 88 = AV.npt := by kernel_rfl
@[go_sem] theorem pt88 : ptrT Tryz.prog 88 = true := by kernel_rfl
@[go_sem] theorem tk89 : tk Tryz.prog 89 = TK.leaf := by kernel_rfl
@[go_sem] theorem tz89 : tz Tryz.prog 89 = AV.nfn := by kernel_rfl
@[go_sem] theorem dz89 : dz Tryz.prog 89 = AV.nfn := by kernel_rfl
@[go_sem] theorem tk90 : tk Tryz.prog 90 = TK.leaf := by kernel_rfl
@[go_sem] theorem tz90 : tz Tryz.prog 90 = AV.npt := by kernel_rfl
@[go_sem] theorem dz90 : dz Tryz.prog 90 = AV.npt := by kernel_rfl
@[go_sem] theorem pt90 : ptrT Tryz.prog 90 = true := by kernel_rfl
@[go_sem] theorem tk91 : tk Tryz.prog 91 = TK.leaf := by kernel_rfl
@[go_sem] theorem tz91 : tz Tryz.prog 91 = AV.nfn := by kernel_rfl
@[go_sem] theorem dz91 : dz Tryz.prog 91 = AV.nfn := by kernel_rfl
@[go_sem] theorem tk92 : tk Tryz.prog 92 = TK.leaf := by kernel_rfl
@[go_sem] theorem tz92 : tz Tryz.prog 92 = AV.npt := by kernel_rfl
@[go_sem] theorem dz92 : dz Tryz.prog 92 = AV.npt := by kernel_rfl
@[go_sem] theorem pt92 : ptrT Tryz.prog 92 = true := by kernel_rfl
@[go_sem] theorem tk93 : tk Tryz.prog 93 = TK.leaf := by kernel_rfl
@[go_sem] theorem tz93 : tz Tryz.prog 93 = AV.nfn := by kernel_rfl
@[go_sem] theorem dz93 : dz Tryz.prog 93 = AV.nfn := by kernel_rfl
@[go_sem] theorem tk94 : tk Tryz.prog 94 = TK.leaf := by kernel_rfl
@[go_sem] theorem tz94 : tz Tryz.prog 94 = AV.npt := by kernel_rfl
@[go_sem] theorem dz94 : dz Tryz.prog 94 = AV.npt := by kernel_rfl
@[go_sem] theorem pt94 : ptrT Tryz.prog 94 = true := by kernel_rfl
@[go_sem] theorem tk95 : tk Tryz.prog 95 = TK.leaf := by kernel_rfl
@[go_sem] theorem tz95 : tz Tryz.prog 95 = AV.nfn := by kernel_rfl
@[go_sem] theorem dz95 : dz Tryz.prog 95 = AV.nfn := by kernel_rfl
@[go_sem] theorem tk96 : tk Tryz.prog 96 = TK.struct 8 [some (0, 2), some (2, 1), some (3, 1), some (4, 1), some (5, 1), some (6, 1), some (7, 1)] := by kernel_rfl
@[go_sem] theorem tz96 : tz Tryz.prog 96 = AV.agg [AV.int IntKind.i64 0, AV.int IntKind.i64 0, AV.int IntKind.i64 0, AV.int IntKind.i64 0, AV.int IntKind.u8 0, AV.int IntKind.u8 0, AV.str [], AV.bool false] := by kernel_rfl
@[go_sem] theorem dz96 : dz Tryz.prog 96 = AV.agg [AV.int IntKind.i64 0, AV.int IntKind.i64 0, AV.int IntKind.i64 0, AV.int IntKind.i64 0, AV.int IntKind.u8 0, AV.int IntKind.u8 0, AV.str [], AV.bool false] := by kernel_rfl
@[go_sem] theorem eb96 : eb Tryz.prog 96 = some 64 := by kernel_rfl
@[go_sem] theorem eq96 : eqK Tryz.prog 96 = some [1, 1, 1, 1, 1, 1, 2, 0] := by kernel_rfl
@[go_sem] theorem tk97 : tk Tryz.prog 97 = TK.struct 8 [some (0, 2), some (2, 1), some (3, 1), some (4, 1), some (5, 1), some (6, 1), some (7, 1)] := by kernel_rfl
@[go_sem] theorem tz97 : tz Tryz.prog 97 = AV.agg [AV.int IntKind.i64 0, AV.int IntKind.i64 0, AV.int IntKind.i64 0, AV.int IntKind.i64 0, AV.int IntKind.u8 0, AV.int IntKind.u8 0, AV.str [], AV.bool false] := by kernel_rfl
@[go_sem] theorem dz97 : dz Tryz.prog 97 = AV.agg [AV.int IntKind.i64 0, AV.int IntKind.i64 0, AV.int IntKind.i64 0, AV.int IntKind.i64 0, AV.int IntKind.u8 0, AV.int IntKind.u8 0, AV.str [], AV.bool false] := by kernel_rfl
@[go_sem] theorem eb97 : eb Tryz.prog 97 = some 64 := by kernel_rfl
@[go_sem] theorem eq97 : eqK Tryz.prog 97 = some [1, 1, 1, 1, 1, 1, 2, 0] := by kernel_rfl
@[go_sem] theorem tk98 : tk Tryz.prog 98 = TK.leaf := by kernel_rfl
@[go_sem] theorem tz98 : tz Tryz.prog 98 = AV.npt := by kernel_rfl
@[go_sem] theorem dz98 : dz Tryz.prog 98 = AV.npt := by kernel_rfl
@[go_sem] theorem pt98 : ptrT Tryz.prog 98 = true := by kernel_rfl
@[go_sem] theorem tk99 : tk Tryz.prog 99 = TK.struct 6 [some (0, 2), some (2, 1), some (3, 1), some (4, 1), some (5, 1)] := by kernel_rfl
@[go_sem] theorem tz99 : tz Tryz.prog 99 = AV.agg [AV.int IntKind.i64 0, AV.int IntKind.i64 0, AV.int IntKind.i64 0, AV.nls, AV.bool false, AV.npt] := by kernel_rfl
@[go_sem] theorem dz99 : dz Tryz.prog 99 = AV.agg [AV.int IntKind.i64 0, AV.int IntKind.i64 0, AV.int IntKind.i64 0, AV.sl 1 [], AV.bool false, AV.npt] := by kernel_rfl
@[go_sem] theorem eb99 : eb Tryz.prog 99 = some 64 := by kernel_rfl
@[go_sem] theorem tk100 : tk Tryz.prog 100 = TK.struct 6 [some (0, 2), some (2, 1), some (3, 1), some (4, 1), some (5, 1)] := by kernel_rfl
@[go_sem] theorem tz100 : tz Tryz.prog 100 = AV.agg [AV.int IntKind.i64 0, AV.int IntKind.i64 0, AV.int IntKind.i64 0, AV.nls, AV.bool false, AV.npt] := by kernel_rfl
@[go_sem] theorem dz100 : dz Tryz.prog 100 = AV.agg [AV.int IntKind.i64 0, AV.int IntKind.i64 0, AV.int IntKind.i64 0, AV.sl 1 [], AV.bool false, AV.npt] := by kernel_rfl
@[go_sem] theorem eb100 : eb Tryz.prog 100 = some 64 := by kernel_rfl
@[go_sem] theorem tk101 : tk Tryz.prog 101 = TK.struct 6 [some (0, 1), some (1, 1), some (2, 1), some (3, 1), some (4, 1), some (5, 1)] := by kernel_rfl
@[go_sem] theorem tz101 : tz Tryz.prog 101 = AV.agg [AV.int IntKind.u8 0, AV.int IntKind.i64 0, AV.str [], AV.str [], AV.int IntKind.u8 0, AV.str []] := by kernel_rfl
@[go_sem] theorem dz101 : dz Tryz.prog 101 = AV.agg [AV.int IntKind.u8 0, AV.int IntKind.i64 0, AV.str [], AV.str [], AV.int IntKind.u8 0, AV.str []] := by kernel_rfl
@[go_sem] theorem eb101 : eb Tryz.prog 101 = some 72 := by kernel_rfl
@[go_sem] theorem eq101 : eqK Tryz.prog 101 = some [1, 1, 2, 2, 1, 2] := by kernel_rfl
@[go_sem] theorem tk102 : tk Tryz.prog 102 = TK.struct 6 [some (0, 1), some (1, 1), some (2, 1), some (3, 1), some (4, 1), some (5, 1)] := by kernel_rfl
@[go_sem] theorem tz102 : tz Tryz.prog 102 = AV.agg [AV.int IntKind.u8 0, AV.int IntKind.i64 0, AV.str [], AV.str [], AV.int IntKind.u8 0, AV.str []] := by kernel_rfl
@[go_sem] theorem dz102 : dz Tryz.prog 102 = AV.agg [AV.int IntKind.u8 0, AV.int IntKind.i64 0, AV.str [], AV.str [], AV.int IntKind.u8 0, AV.str []] := by kernel_rfl
@[go_sem] theorem eb102 : eb Tryz.prog 102 = some 72 := by kernel_rfl
@[go_sem] theorem eq102 : eqK Tryz.prog 102 = some [1, 1, 2, 2, 1, 2] := by kernel_rfl
@[go_sem] theorem tk103 : tk Tryz.prog 103 = TK.struct 8 [some (0, 6), some (6, 1), some (7, 1)] := by kernel_rfl
@[go_sem] theorem tz103 : tz Tryz.prog 103 = AV.agg [AV.int IntKind.u8 0, AV.int IntKind.i64 0, AV.str [], AV.str [], AV.int IntKind.u8 0, AV.str [], AV.nls, AV.bool false] := by kernel_rfl
@[go_sem] theorem dz103 : dz Tryz.prog 103 = AV.agg [AV.int IntKind.u8 0, AV.int IntKind.i64 0, AV.str [], AV.str [], AV.int IntKind.u8 0, AV.str [], AV.sl 1 [], AV.bool false] := by kernel_rfl
@[go_sem] theorem eb103 : eb Tryz.prog 103 = some 104 := by kernel_rfl
@[go_sem] theorem tk104 : tk Tryz.prog 104 = TK.struct 8 [some (0, 6), some (6, 1), some (7, 1)] := by kernel_rfl
@[go_sem] theorem tz104 : tz Tryz.prog 104 = AV.agg [AV.int IntKind.u8 0, AV.int IntKind.i64 0, AV.str [], AV.str [], AV.int IntKind.u8 0, AV.str [], AV.nls, AV.bool false] := by kernel_rfl
@[go_sem] theorem dz104 : dz Tryz.prog 104 = AV.agg [AV.int IntKind.u8 0, AV.int IntKind.i64 0, AV.str [], AV.str [], AV.int IntKind.u8 0, AV.str [], AV.sl 1 [], AV.bool false] := by kernel_rfl
@[go_sem] theorem eb104 : eb Tryz.prog 104 = some 104 := by kernel_rfl
@[go_sem] theorem tk105 : tk Tryz.prog 105 = TK.struct 32 [some (0, 8), some (8, 1), some (9, 1), some (10, 2), some (12, 1), some (13, 1), some (14, 1), some (15, 1), some (16, 6), some (22, 8), some (30, 2)] := by kernel_rfl
@[go_sem] theorem tz105 : tz Tryz.prog 105 = AV.agg [AV.int IntKind.i64 0, AV.int IntKind.i64 0, AV.int IntKind.i64 0, AV.int IntKind.i64 0, AV.int IntKind.u8 0, AV.int IntKind.u8 0, AV.str [], AV.bool false, AV.npt, AV.int IntKind.i64 0, AV.int IntKind.i64 0, AV.int IntKind.i64 0, AV.npt, AV.npt, AV.npt, AV.npt, AV.int IntKind.i64 0, AV.int IntKind.i64 0, AV.int IntKind.i64 0, AV.nls, AV.bool false, AV.npt, AV.int IntKind.u8 0, AV.int IntKind.i64 0, AV.str [], AV.str [], AV.int IntKind.u8 0, AV.str [], AV.nls, AV.bool false, AV.int IntKind.i64 0, AV.int IntKind.i64 0] := by kernel_rfl
@[go_sem] theorem dz105 : dz Tryz.prog 105 = AV.agg [AV.int IntKind.i64 0, AV.int IntKind.i64 0, AV.int IntKind.i64 0, AV.int IntKind.i64 0, AV.int IntKind.u8 0, AV.int IntKind.u8 0, AV.str [], AV.bool false, AV.npt, AV.int IntKind.i64 0, AV.int IntKind.i64 0, AV.int IntKind.i64 0, AV.npt, AV.npt, AV.npt, AV.npt, AV.int IntKind.i64 0, AV.int IntKind.i64 0, AV.int IntKind.i64 0, AV.sl 1 [], AV.bool false, AV.npt, AV.int IntKind.u8 0, AV.int IntKind.i64 0, AV.str [], AV.str [], AV.int IntKind.u8 0, AV.str [], AV.sl 1 [], AV.bool false, AV.int IntKind.i64 0, AV.int IntKind.i64 0] := by kernel_rfl
@[go_sem] theorem eb105 : eb Tryz.prog 105 = some 312 := by kernel_rfl
@[go_sem] theorem tk106 : tk Tryz.prog 106 = TK.struct 32 [some (0, 8), some (8, 1), some (9, 1), some (10, 2), some (12, 1), some (13, 1), some (14, 1), some (15, 1), some (16, 6), some (22, 8), some (30, 2)] := by kernel_rfl
@[go_sem] theorem tz106 : tz Tryz.prog 106 = AV.agg [AV.int IntKind.i64 0, AV.int IntKind.i64 0, AV.int IntKind.i64 0, AV.int IntKind.i64 0, AV.int IntKind.u8 0, AV.int IntKind.u8 0, AV.str [], AV.bool false, AV.npt, AV.int IntKind.i64 0, AV.int IntKind.i64 0, AV.int IntKind.i64 0, AV.npt, AV.npt, AV.npt, AV.npt, AV.int IntKind.i64 0, AV.int IntKind.i64 0, AV.int IntKind.i64 0, AV.nls, AV.bool false, AV.npt, AV.int IntKind.u8 0, AV.int IntKind.i64 0, AV.str [], AV.str [], AV.int IntKind.u8 0, AV.str [], AV.nls, AV.bool false, AV.int IntKind.i64 0, AV.int IntKind.i64 0] := by kernel_rfl
@[go_sem] theorem dz106 : dz Tryz.prog 106 = AV.agg [AV.int IntKind.i64 0, AV.int IntKind.i64 0, AV.int IntKind.i64 0, AV.int IntKind.i64 0, AV.int IntKind.u8 0, AV.int IntKind.u8 0, AV.str [], AV.bool false, AV.npt, AV.int IntKind.i64 0, AV.int IntKind.i64 0, AV.int IntKind.i64 0, AV.npt, AV.npt, AV.npt, AV.npt, AV.int IntKind.i64 0, AV.int IntKind.i64 0, AV.int IntKind.i64 0, AV.sl 1 [], AV.bool false, AV.npt, AV.int IntKind.u8 0, AV.int IntKind.i64 0, AV.str [], AV.str [], AV.int IntKind.u8 0, AV.str [], AV.sl 1 [], AV.bool false, AV.int IntKind.i64 0, AV.int IntKind.i64 0] := by kernel_rfl
@[go_sem] theorem eb106 : eb Tryz.prog 106 = some 312 := by kernel_rfl
@[go_sem] theorem tk107 : tk Tryz.prog 107 = TK.struct 2 [some (0, 1), some (1, 1)] := by kernel_rfl
@[go_sem] theorem tz107 : tz Tryz.prog 107 = AV.agg [AV.int IntKind.i64 0, AV.bool false] := by kernel_rfl
@[go_sem] theorem dz107 : dz Tryz.prog 107 = AV.agg [AV.int IntKind.i64 0, AV.bool false] := by kernel_rfl
@[go_sem] theorem eb107 : eb Tryz.prog 107 = some 16 := by kernel_rfl
@[go_sem] theorem eq107 : eqK Tryz.prog 107 = some [1, 0] := by kernel_rfl
@[go_sem] theorem tk108 : tk Tryz.prog 108 = TK.struct 2 [some (0, 1), some (1, 1)] := by kernel_rfl
@[go_sem] theorem tz108 : tz Tryz.prog 108 = AV.agg [AV.int IntKind.i64 0, AV.bool false] := by kernel_rfl
@[go_sem] theorem dz108 : dz Tryz.prog 108 = AV.agg [AV.int IntKind.i64 0, AV.bool false] := by kernel_rfl
@[go_sem] theorem eb108 : eb Tryz.prog 108 = some 16 := by kernel_rfl
@[go_sem] theorem eq108 : eqK Tryz.prog 108 = some [1, 0] := by kernel_rfl
@[go_sem] theorem tk109 : tk Tryz.prog 109 = TK.struct 14 [some (0, 1), some (1, 1), some (2, 1), some (3, 1), some (4, 6), some (10, 2), some (12, 2)] := by kernel_rfl
@[go_sem] theorem tz109 : tz Tryz.prog 109 = AV.agg [AV.int IntKind.i64 0, AV.bool false, AV.bool false, AV.bool false, AV.int IntKind.u8 0, AV.int IntKind.i64 0, AV.str [], AV.str [], AV.int IntKind.u8 0, AV.str [], AV.int IntKind.i64 0, AV.bool false, AV.int IntKind.i64 0, AV.bool false] := by kernel_rfl
@[go_sem] theorem dz109 : dz Tryz.prog 109 = AV.agg [AV.int IntKind.i64 0, AV.bool false, AV.bool false, AV.bool false, AV.int IntKind.u8 0, AV.int IntKind.i64 0, AV.str [], AV.str [], AV.int IntKind.u8 0, AV.str [], AV.int IntKind.i64 0, AV.bool false, AV.int IntKind.i64 0, AV.bool false] := by kernel_rfl
@[go_sem] theorem eb109 : eb Tryz.prog 109 = some 120 := by kernel_rfl
@[go_sem] theorem eq109 : eqK Tryz.prog 109 = some [1, 0, 0, 0, 1, 1, 2, 2, 1, 2, 1, 0, 1, 0] := by kernel_rfl
@[go_sem] theorem tk110 : tk Tryz.prog 110 = TK.struct 14 [some (0, 1), some (1, 1), some (2, 1), some (3, 1), some (4, 6), some (10, 2), some (12, 2)] := by kernel_rfl
@[go_sem] theorem tz110 : tz Tryz.prog 110 = AV.agg [AV.int IntKind.i64 0, AV.bool false, AV.bool false, AV.bool false, AV.int IntKind.u8 0, AV.int IntKind.i64 0, AV.str [], AV.str [], AV.int IntKind.u8 0, AV.str [], AV.int IntKind.i64 0, AV.bool false, AV.int IntKind.i64 0, AV.bool false] := by kernel_rfl
@[go_sem] theorem dz110 : dz Tryz.prog 110 = AV.agg [AV.int IntKind.i64 0, AV.bool false, AV.bool false, AV.bool false, AV.int IntKind.u8 0, AV.int IntKind.i64 0, AV.str [], AV.str [], AV.int IntKind.u8 0, AV.str [], AV.int IntKind.i64 0, AV.bool false, AV.int IntKind.i64 0, AV.bool false] := by kernel_rfl
@[go_sem] theorem eb110 : eb Tryz.prog 110 = some 120 := by kernel_rfl
@[go_sem] theorem eq110 : eqK Tryz.prog 110 = some [1, 0, 0, 0, 1, 1, 2, 2, 1, 2, 1, 0, 1, 0] := by kernel_rfl
@[go_sem] theorem tk111 : tk Tryz.prog 111 = TK.slice 164 3 := by kernel_rfl
@[go_sem] theorem tz111 : tz Tryz.prog 111 = AV.nls := by kernel_rfl
@[go_sem] theorem dz111 : dz Tryz.prog 111 = AV.sl 3 [] := by kernel_rfl
@[go_sem] theorem eb111 : eb Tryz.prog 111 = some 24 := by kernel_rfl
@[go_sem] theorem tk112 : tk Tryz.prog 112 = TK.struct 4 [some (0, 1), some (1, 1), some (2, 1), some (3, 1)] := by kernel_rfl
@[go_sem] theorem tz112 : tz Tryz.prog 112 = AV.agg [AV.nls, AV.int IntKind.i64 0, AV.int IntKind.i64 0, AV.int IntKind.i64 0] := by kernel_rfl
@[go_sem] theorem dz112 : dz Tryz.prog 112 = AV.agg [AV.sl 3 [], AV.int IntKind.i64 0, AV.int IntKind.i64 0, AV.int IntKind.i64 0] := by kernel_rfl
@[go_sem] theorem eb112 : eb Tryz.prog 112 = some 48 := by kernel_rfl
@[go_sem] theorem tk113 : tk Tryz.prog 113 = TK.struct 4 [some (0, 1), some (1, 1), some (2, 1), some (3, 1)] := by kernel_rfl
@[go_sem] theorem tz113 : tz Tryz.prog 113 = AV.agg [AV.nls, AV.int IntKind.i64 0, AV.int IntKind.i64 0, AV.int IntKind.i64 0] := by kernel_rfl
@[go_sem] theorem dz113 : dz Tryz.prog 113 = AV.agg [AV.sl 3 [], AV.int IntKind.i64 0, AV.int IntKind.i64 0, AV.int IntKind.i64 0] := by kernel_rfl
@[go_sem] theorem eb113 : eb Tryz.prog 113 = some 48 := by kernel_rfl
@[go_sem] theorem tk114 : tk Tryz.prog 114 = TK.leaf := by kernel_rfl
@[go_sem] theorem tz114 : tz Tryz.prog 114 = AV.nfn := by kernel_rfl
@[go_sem] theorem dz114 : dz Tryz.prog 114 = AV.nfn := by kernel_rfl
@[go_sem] theorem tk115 : tk Tryz.prog 115 = TK.leaf := by kernel_rfl
@[go_sem] theorem tz115 : tz Tryz.prog 115 = AV.nfn := by kernel_rfl
@[go_sem] theorem dz115 : dz Tryz.prog 115 = AV.nfn := by kernel_rfl
@[go_sem] theorem tk116 : tk Tryz.prog 116 = TK.leaf := by kernel_rfl
@[go_sem] theorem tz116 : tz Tryz.prog 116 = AV.nfn := by kernel_rfl
@[go_sem] theorem dz116 : dz Tryz.prog 116 = AV.nfn := by kernel_rfl
@[go_sem] theorem tk117 : tk Tryz.prog 117 = TK.leaf := by kernel_rfl
@[go_sem] theorem tz117 : tz Tryz.prog 117 = AV.nfn := by kernel_rfl
@[go_sem] theorem dz117 : dz Tryz.prog 117 = AV.nfn := by kernel_rfl
@[go_sem] theorem tk118 : tk Tryz.prog 118 = TK.leaf := by kernel_rfl
@[go_sem] theorem tz118 : tz Tryz.prog 118 = AV.nfn := by kernel_rfl
@[go_sem] theorem dz118 : dz Tryz.prog 118 = AV.nfn := by kernel_rfl
@[go_sem] theorem tk119 : tk Tryz.prog 119 = TK.leaf := by kernel_rfl
@[go_sem] theorem tz119 : tz Tryz.prog 119 = AV.nfn := by kernel_rfl
@[go_sem] theorem dz119 : dz Tryz.prog 119 = AV.nfn := by kernel_rfl
@[go_sem] theorem tk121 : tk Tryz.prog 121 = TK.leaf := by kernel_rfl
@[go_sem] theorem tz121 : tz Tryz.prog 121 = AV.nfn := by kernel_rfl
@[go_sem] theorem dz121 : dz Tryz.prog 121 = AV.nfn := by kernel_rfl
@[go_sem] theorem tk123 : tk Tryz.prog 123 = TK.leaf := by kernel_rfl
@[go_sem] theorem tz123 : tz Tryz.prog 123 = AV.nfn := by kernel_rfl
@[go_sem] theorem dz123 : dz Tryz.prog 123 = AV.nfn := by kernel_rfl
@[go_sem] theorem tk125 : tk Tryz.prog 125 = TK.leaf := by kernel_rfl
@[go_sem] theorem tz125 : tz Tryz.prog 125 = AV.nfn := by kernel_rfl
@[go_sem] theorem dz125 : dz Tryz.prog 125 = AV.nfn := by kernel_rfl
@[go_sem] theorem tk127 : tk Tryz.prog 127 = TK.leaf := by kernel_rfl
@[go_sem] theorem tz127 : tz Tryz.prog 127 = AV.nfn := by kernel_rfl
@[go_sem] theorem dz127 : dz Tryz.prog 127 = AV.nfn := by kernel_rfl
@[go_sem] theorem tk128 : tk Tryz.prog 128 = TK.leaf := by kernel_rfl
@[go_sem] theorem tz128 : tz Tryz.prog 128 = AV.nfn := by kernel_rfl
@[go_sem] theorem dz128 : dz Tryz.prog 128 = AV.nfn := by kernel_rfl
@[go_sem] theorem tk129 : tk Tryz.prog 129 = TK.int IntKind.u64 := by kernel_rfl
@[go_sem] theorem tz129 : tz Tryz.prog 129 = AV.int IntKind.u64 0 := by kernel_rfl
@[go_sem] theorem dz129 : dz Tryz.prog 129 = AV.int IntKind.u64 0 := by kernel_rfl
@[go_sem] theorem eb129 : eb Tryz.prog 129 = some 8 := by kernel_rfl
@[go_sem] theorem eq129 : eqK Tryz.prog 129 = some [1] := by kernel_rfl
@[go_sem] theorem tk130 : tk Tryz.prog 130 = TK.leaf := by kernel_rfl
@[go_sem] theorem tz130 : tz Tryz.prog 130 = AV.npt := by kernel_rfl
@[go_sem] theorem dz130 : dz Tryz.prog 130 = AV.npt := by kernel_rfl
@[go_sem] theorem pt130 : ptrT Tryz.prog 130 = true := by kernel_rfl
@[go_sem] theorem tk132 : tk Tryz.prog 132 = TK.leaf := by kernel_rfl
@[go_sem] theorem tz132 : tz Tryz.prog 132 = AV.nfn := by kernel_rfl
@[go_sem] theorem dz132 : dz Tryz.prog 132 = AV.nfn := by kernel_rfl
@[go_sem] theorem tk133 : tk Tryz.prog 133 = TK.leaf := by kernel_rfl
@[go_sem] theorem tz133 : tz Tryz.prog 133 = AV.npt := by kernel_rfl
@[go_sem] theorem dz133 : dz Tryz.prog 133 = AV.npt := by kernel_rfl
@[go_sem] theorem pt133 : ptrT Tryz.prog 133 = true := by kernel_rfl
@[go_sem] theorem tk134 : tk Tryz.prog 134 = TK.leaf := by kernel_rfl
@[go_sem] theorem tz134 : tz Tryz.prog 134 = AV.nfn := by kernel_rfl
@[go_sem] theorem dz134 : dz Tryz.prog 134 = AV.nfn := by kernel_rfl
@[go_sem] theorem tk135 : tk Tryz.prog 135 = TK.struct 2 [some (0, 1), some (1, 1)] := by kernel_rfl
@[go_sem] theorem tz135 : tz Tryz.prog 135 = AV.agg [AV.npt, AV.npt] := by kernel_rfl
@[go_sem] theorem dz135 : dz Tryz.prog 135 = AV.agg [AV.npt, AV.npt] := by kernel_rfl
@[go_sem] theorem eb135 : eb Tryz.prog 135 = some 16 := by kernel_rfl
@[go_sem] theorem tk136 : tk Tryz.prog 136 = TK.struct 2 [some (0, 1), some (1, 1)] := by kernel_rfl
@[go_sem] theorem tz136 : tz Tryz.prog 136 = AV.agg [AV.npt, AV.npt] := by kernel_rfl
@[go_sem] theorem dz136 : dz Tryz.prog 136 = AV.agg [AV.npt, AV.npt] := by kernel_rfl
@[go_sem] theorem eb136 : eb Tryz.prog 136 = some 16 := by kernel_rfl
@[go_sem] theorem tk137 : tk Tryz.prog 137 = TK.leaf := by kernel_rfl
@[go_sem] theorem mt137 : mapT Tryz.prog 137 = some (some IntKind.u8, 33) := by kernel_rfl
@[go_sem] theorem tk138 : tk Tryz.prog 138 = TK.struct 1 [some (0, 1)] := by kernel_rfl
@[go_sem] theorem tz138 : tz Tryz.prog 138 = AV.agg [AV.top] := by kernel_rfl
@[go_sem] theorem dz138 : dz Tryz.prog 138 = AV.agg [AV.top] := by kernel_rfl
@[go_sem] theorem eb138 : eb Tryz.prog 138 = some 8 := by kernel_rfl
@[go_sem] theorem tk139 : tk Tryz.prog 139 = TK.struct 1 [some (0, 1)] := by kernel_rfl
@[go_sem] theorem tz139 : tz Tryz.prog 139 = AV.agg [AV.top] := by kernel_rfl
@[go_sem] theorem dz139 : dz Tryz.prog 139 = AV.agg [AV.top] := by kernel_rfl
@[go_sem] theorem eb139 : eb Tryz.prog 139 = some 8 := by kernel_rfl
@[go_sem] theorem tk140 : tk Tryz.prog 140 = TK.leaf := by kernel_rfl
@[go_sem] theorem mt140 : mapT Tryz.prog 140 = some (some IntKind.u8, 24) := by kernel_rfl
@[go_sem] theorem tk141 : tk Tryz.prog 141 = TK.struct 1 [some (0, 1)] := by kernel_rfl
@[go_sem] theorem tz141 : tz Tryz.prog 141 = AV.agg [AV.top] := by kernel_rfl
@[go_sem] theorem dz141 : dz Tryz.prog 141 = AV.agg [AV.top] := by kernel_rfl
@[go_sem] theorem eb141 : eb Tryz.prog 141 = some 8 := by kernel_rfl
@[go_sem] theorem tk142 : tk Tryz.prog 142 = TK.struct 1 [some (0, 1)] := by kernel_rfl
@[go_sem] theorem tz142 : tz Tryz.prog 142 = AV.agg [AV.top] := by kernel_rfl
@[go_sem] theorem dz142 : dz Tryz.prog 142 = AV.agg [AV.top] := by kernel_rfl
@[go_sem] theorem eb142 : eb Tryz.prog 142 = some 8 := by kernel_rfl
@[go_sem] theorem tk143 : tk Tryz.prog 143 = TK.leaf := by kernel_rfl
@[go_sem] theorem tz143 : tz Tryz.prog 143 = AV.npt := by kernel_rfl
@[go_sem] theorem dz143 : dz Tryz.prog 143 = AV.npt := by kernel_rfl
@[go_sem] theorem pt143 : ptrT Tryz.prog 143 = true := by kernel_rfl
@[go_sem] theorem tk144 : tk Tryz.prog 144 = TK.leaf := by kernel_rfl
@[go_sem] theorem tz144 : tz Tryz.prog 144 = AV.nfn := by kernel_rfl
@[go_sem] theorem dz144 : dz Tryz.prog 144 = AV.nfn := by kernel_rfl
@[go_sem] theorem tk145 : tk Tryz.prog 145 = TK.struct 2 [some (0, 1), some (1, 1)] := by kernel_rfl
@[go_sem] theorem tz145 : tz Tryz.prog 145 = AV.agg [AV.npt, AV.int IntKind.i64 0] := by kernel_rfl
@[go_sem] theorem dz145 : dz Tryz.prog 145 = AV.agg [AV.npt, AV.int IntKind.i64 0] := by kernel_rfl
@[go_sem] theorem eb145 : eb Tryz.prog 145 = some 16 := by kernel_rfl
@[go_sem] theorem tk146 : tk Tryz.prog 146 = TK.struct 2 [some (0, 1), some (1, 1)] := by kernel_rfl
@[go_sem] theorem tz146 : tz Tryz.prog 146 = AV.agg [AV.npt, AV.int IntKind.i64 0] := by kernel_rfl
@[go_sem] theorem dz146 : dz Tryz.prog 146 = AV.agg [AV.npt, AV.int IntKind.i64 0] := by kernel_rfl
@[go_sem] theorem eb146 : eb Tryz.prog 146 = some 16 := by kernel_rfl
@[go_sem] theorem tk147 : tk Tryz.prog 147 = TK.leaf := by kernel_rfl
@[go_sem] theorem tz147 : tz Tryz.prog 147 = AV.npt := by kernel_rfl
@[go_sem] theorem dz147 : dz Tryz.prog 147 = AV.npt := by kernel_rfl
@[go_sem] theorem pt147 : ptrT Tryz.prog 147 = true := by kernel_rfl
@[go_sem] theorem tk148 : tk Tryz.prog 148 = TK.leaf := by kernel_rfl
@[go_sem] theorem tz148 : tz Tryz.prog 148 = AV.nfn := by kernel_rfl
@[go_sem] theorem dz148 : dz Tryz.prog 148 = AV.nfn := by kernel_rfl
@[go_sem] theorem tk149 : tk Tryz.prog 149 = TK.slice 202 3 := by kernel_rfl
@[go_sem] theorem tz149 : tz Tryz.prog 149 = AV.nls := by kernel_rfl
@[go_sem] theorem dz149 : dz Tryz.prog 149 = AV.sl 3 [] := by kernel_rfl
@[go_sem] theorem eb149 : eb Tryz.prog 149 = some 24 := by kernel_rfl
@[go_sem] theorem tk150 : tk Tryz.prog 150 = TK.struct 5 [some (0, 2), some (2, 2), some (4, 1)] := by kernel_rfl
@[go_sem] theorem tz150 : tz Tryz.prog 150 = AV.agg [AV.int IntKind.i64 0, AV.int IntKind.i64 0, AV.int IntKind.i64 0, AV.int IntKind.i64 0, AV.nls] := by kernel_rfl
@[go_sem] theorem dz150 : dz Tryz.prog 150 = AV.agg [AV.int IntKind.i64 0, AV.int IntKind.i64 0, AV.int IntKind.i64 0, AV.int IntKind.i64 0, AV.sl 3 []] := by kernel_rfl
@[go_sem] theorem eb150 : eb Tryz.prog 150 = some 56 := by kernel_rfl
@[go_sem] theorem tk151 : tk Tryz.prog 151 = TK.struct 5 [some (0, 2), some (2, 2), some (4, 1)] := by kernel_rfl
@[go_sem] theorem tz151 : tz Tryz.prog 151 = AV.agg [AV.int IntKind.i64 0, AV.int IntKind.i64 0, AV.int IntKind.i64 0, AV.int IntKind.i64 0, AV.nls] := by kernel_rfl
@[go_sem] theorem dz151 : dz Tryz.prog 151 = AV.agg [AV.int IntKind.i64 0, AV.int IntKind.i64 0, AV.int IntKind.i64 0, AV.int IntKind.i64 0, AV.sl 3 []] := by kernel_rfl
@[go_sem] theorem eb151 : eb Tryz.prog 151 = some 56 := by kernel_rfl
@[go_sem] theorem tk152 : tk Tryz.prog 152 = TK.leaf := by kernel_rfl
@[go_sem] theorem tz152 : tz Tryz.prog 152 = AV.npt := by kernel_rfl
@[go_sem] theorem dz152 : dz Tryz.prog 152 = AV.npt := by kernel_rfl
@[go_sem] theorem pt152 : ptrT Tryz.prog 152 = true := by kernel_rfl
@[go_sem] theorem tk153 : tk Tryz.prog 153 = TK.struct 3 [some (0, 1), some (1, 1), some (2, 1)] := by kernel_rfl
@[go_sem] theorem tz153 : tz Tryz.prog 153 = AV.agg [AV.npt, AV.int IntKind.i64 0, AV.npt] := by kernel_rfl
@[go_sem] theorem dz153 : dz Tryz.prog 153 = AV.agg [AV.npt, AV.int IntKind.i64 0, AV.npt] := by kernel_rfl
@[go_sem] theorem eb153 : eb Tryz.prog 153 = some 24 := by kernel_rfl
@[go_sem] theorem tk154 : tk Tryz.prog 154 = TK.struct 3 [some (0, 1), some (1, 1), some (2, 1)] := by kernel_rfl
@[go_sem] theorem tz154 : tz Tryz.prog 154 = AV.agg [AV.npt, AV.int IntKind.i64 0, AV.npt] := by kernel_rfl
@[go_sem] theorem dz154 : dz Tryz.prog 154 = AV.agg [AV.npt, AV.int IntKind.i64 0, AV.npt] := by kernel_rfl
@[go_sem] theorem eb154 : eb Tryz.prog 154 = some 24 := by kernel_rfl
@[go_sem] theorem tk155 : tk Tryz.prog 155 = TK.leaf := by kernel_rfl
@[go_sem] theorem tz155 : tz Tryz.prog 155 = AV.nfn := by kernel_rfl
@[go_sem] theorem dz155 : dz Tryz.prog 155 = AV.nfn := by kernel_rfl
@[go_sem] theorem tk156 : tk Tryz.prog 156 = TK.leaf := by kernel_rfl
@[go_sem] theorem tz156 : tz Tryz.prog 156 = AV.nfn := by kernel_rfl
@[go_sem] theorem dz156 : dz Tryz.prog 156 = AV.nfn := by kernel_rfl
@[go_sem] theorem tk157 : tk Tryz.prog 157 = TK.leaf := by kernel_rfl
@[go_sem] theorem tz157 : tz Tryz.prog 157 = AV.nfn := by kernel_rfl
@[go_sem] theorem dz157 : dz Tryz.prog 157 = AV.nfn := by kernel_rfl
@[go_sem] theorem tk159 : tk Tryz.prog 159 = TK.leaf := by kernel_rfl
@[go_sem] theorem tz159 : tz Tryz.prog 159 = AV.nfn := by kernel_rfl
@[go_sem] theorem dz159 : dz Tryz.prog 159 = AV.nfn := by kernel_rfl
@[go_sem] theorem tk160 : tk Tryz.prog 160 = TK.leaf := by kernel_rfl
@[go_sem] theorem tz160 : tz Tryz.prog 160 = AV.nfn := by kernel_rfl
@[go_sem] theorem dz160 : dz Tryz.prog 160 = AV.nfn := by kernel_rfl
@[go_sem] theorem tk161 : tk Tryz.prog 161 = TK.leaf := by kernel_rfl
@[go_sem] theorem tz161 : tz Tryz.prog 161 = AV.nfn := by kernel_rfl
@[go_sem] theorem dz161 : dz Tryz.prog 161 = AV.nfn := by kernel_rfl
@[go_sem] theorem tk162 : tk Tryz.prog 162 = TK.leaf := by kernel_rfl
@[go_sem] theorem tz162 : tz Tryz.prog 162 = AV.npt := by kernel_rfl
@[go_sem] theorem dz162 : dz Tryz.prog 162 = AV.npt := by kernel_rfl
@[go_sem] theorem pt162 : ptrT Tryz.prog 162 = true := by kernel_rfl
@[go_sem] theorem tk163 : tk Tryz.prog 163 = TK.struct 3 [some (0, 1), some (1, 1), some (2, 1)] := by kernel_rfl
@[go_sem] theorem tz163 : tz Tryz.prog 163 = AV.agg [AV.nls, AV.int IntKind.i64 0, AV.int IntKind.i64 0] := by kernel_rfl
@[go_sem] theorem dz163 : dz Tryz.prog 163 = AV.agg [AV.sl 1 [], AV.int IntKind.i64 0, AV.int IntKind.i64 0] := by kernel_rfl
@[go_sem] theorem eb163 : eb Tryz.prog 163 = some 40 := by kernel_rfl
@[go_sem] theorem tk164 : tk Tryz.prog 164 = TK.struct 3 [some (0, 1), some (1, 1), some (2, 1)] := by kernel_rfl
@[go_sem] theorem tz164 : tz Tryz.prog 164 = AV.agg [AV.nls, AV.int IntKind.i64 0, AV.int IntKind.i64 0] := by kernel_rfl
@[go_sem] theorem dz164 : dz Tryz.prog 164 = AV.agg [AV.sl 1 [], AV.int IntKind.i64 0, AV.int IntKind.i64 0] := by kernel_rfl
@[go_sem] theorem eb164 : eb Tryz.prog 164 = some 40 := by kernel_rfl
@[go_sem] theorem tk165 : tk Tryz.prog 165 = TK.leaf := by kernel_rfl
@[go_sem] theorem tz165 : tz Tryz.prog 165 = AV.nfn := by kernel_rfl
@[go_sem] theorem dz165 : dz Tryz.prog 165 = AV.nfn := by kernel_rfl
@[go_sem] theorem tk166 : tk Tryz.prog 166 = TK.leaf := by kernel_rfl
@[go_sem] theorem tz166 : tz Tryz.prog 166 = AV.nfn := by kernel_rfl
@[go_sem] theorem dz166 : dz Tryz.prog 166 = AV.nfn := by kernel_rfl
@[go_sem] theorem tk167 : tk Tryz.prog 167 = TK.leaf := by kernel_rfl
@[go_sem] theorem tz167 : tz Tryz.prog 167 = AV.nfn := by kernel_rfl
@[go_sem] theorem dz167 : dz Tryz.prog 167 = AV.nfn := by kernel_rfl
@[go_sem] theorem tk168 : tk Tryz.prog 168 = TK.leaf := by kernel_rfl
@[go_sem] theorem tz168 : tz Tryz.prog 168 = AV.nfn := by kernel_rfl
@[go_sem] theorem dz168 : dz Tryz.prog 168 = AV.nfn := by kernel_rfl
@[go_sem] theorem tk169 : tk Tryz.prog 169 = TK.leaf := by kernel_rfl
@[go_sem] theorem tz169 : tz Tryz.prog 169 = AV.nfn := by kernel_rfl
@[go_sem] theorem dz169 : dz Tryz.prog 169 = AV.nfn := by kernel_rfl
@[go_sem] theorem tk170 : tk Tryz.prog 170 = TK.leaf := by kernel_rfl
@[go_sem] theorem tz170 : tz Tryz.prog 170 = AV.nfn := by kernel_rfl
@[go_sem] theorem dz170 : dz Tryz.prog 170 = AV.nfn := by kernel_rfl
@[go_sem] theorem tk171 : tk Tryz.prog 171 = TK.leaf := by kernel_rfl
@[go_sem] theorem tz171 : tz Tryz.prog 171 = AV.nfn := by kernel_rfl
@[go_sem] theorem dz171 : dz Tryz.prog 171 = AV.nfn := by kernel_rfl
@[go_sem] theorem tk172 : tk Tryz.prog 172 = TK.leaf := by kernel_rfl
@[go_sem] theorem tz172 : tz Tryz.prog 172 = AV.nfn := by kernel_rfl
@[go_sem] theorem dz172 : dz Tryz.prog 172 = AV.nfn := by kernel_rfl
@[go_sem] theorem tk173 : tk Tryz.prog 173 = TK.leaf := by kernel_rfl
@[go_sem] theorem tz173 : tz Tryz.prog 173 = AV.nfn := by kernel_rfl
@[go_sem] theorem dz173 : dz Tryz.prog 173 = AV.nfn := by kernel_rfl
@[go_sem] theorem tk174 : tk Tryz.prog 174 = TK.leaf := by kernel_rfl
@[go_sem] theorem tz174 : tz Tryz.prog 174 = AV.nfn := by kernel_rfl
@[go_sem] theorem dz174 : dz Tryz.prog 174 = AV.nfn := by kernel_rfl
@[go_sem] theorem tk175 : tk Tryz.prog 175 = TK.leaf := by kernel_rfl
@[go_sem] theorem tz175 : tz Tryz.prog 175 = AV.nfn := by kernel_rfl
@[go_sem] theorem dz175 : dz Tryz.prog 175 = AV.nfn := by kernel_rfl
@[go_sem] theorem tk176 : tk Tryz.prog 176 = TK.leaf := by kernel_rfl
@[go_sem] theorem tz176 : tz Tryz.prog 176 = AV.npt := by kernel_rfl
@[go_sem] theorem dz176 : dz Tryz.prog 176 = AV.npt := by kernel_rfl
@[go_sem] theorem pt176 : ptrT Tryz.prog 176 = true := by kernel_rfl
@[go_sem] theorem tk177 : tk Tryz.prog 177 = TK.leaf := by kernel_rfl
@[go_sem] theorem tz177 : tz Tryz.prog 177 = AV.nfn := by kernel_rfl
@[go_sem] theorem dz177 : dz Tryz.prog 177 = AV.nfn := by kernel_rfl
@[go_sem] theorem tk178 : tk Tryz.prog 178 = TK.struct 3 [some (0, 1), some (1, 1), some (2, 1)] := by kernel_rfl
@[go_sem] theorem tz178 : tz Tryz.prog 178 = AV.agg [AV.bool false, AV.int IntKind.i64 0, AV.int IntKind.i64 0] := by kernel_rfl
@[go_sem] theorem dz178 : dz Tryz.prog 178 = AV.agg [AV.bool false, AV.int IntKind.i64 0, AV.int IntKind.i64 0] := by kernel_rfl
@[go_sem] theorem eb178 : eb Tryz.prog 178 = some 24 := by kernel_rfl
@[go_sem] theorem eq178 : eqK Tryz.prog 178 = some [0, 1, 1] := by kernel_rfl
@[go_sem] theorem tk179 : tk Tryz.prog 179 = TK.struct 3 [some (0, 1), some (1, 1), some (2, 1)] := by kernel_rfl
@[go_sem] theorem tz179 : tz Tryz.prog 179 = AV.agg [AV.bool false, AV.int IntKind.i64 0, AV.int IntKind.i64 0] := by kernel_rfl
@[go_sem] theorem dz179 : dz Tryz.prog 179 = AV.agg [AV.bool false, AV.int IntKind.i64 0, AV.int IntKind.i64 0] := by kernel_rfl
@[go_sem] theorem eb179 : eb Tryz.prog 179 = some 24 := by kernel_rfl
@[go_sem] theorem eq179 : eqK Tryz.prog 179 = some [0, 1, 1] := by kernel_rfl
@[go_sem] theorem tk180 : tk Tryz.prog 180 = TK.struct 6 [some (0, 1), some (1, 1), some (2, 1), some (3, 1), some (4, 1), some (5, 1)] := by kernel_rfl
@[go_sem] theorem tz180 : tz Tryz.prog 180 = AV.agg [AV.str [], AV.nls, AV.npt, AV.int IntKind.i64 0, AV.int IntKind.i64 0, AV.int IntKind.i64 0] := by kernel_rfl
@[go_sem] theorem dz180 : dz Tryz.prog 180 = AV.agg [AV.str [], AV.sl 1 [], AV.npt, AV.int IntKind.i64 0, AV.int IntKind.i64 0, AV.int IntKind.i64 0] := by kernel_rfl
@[go_sem] theorem eb180 : eb Tryz.prog 180 = some 72 := by kernel_rfl
@[go_sem] theorem tk181 : tk Tryz.prog 181 = TK.struct 6 [some (0, 1), some (1, 1), some (2, 1), some (3, 1), some (4, 1), some (5, 1)] := by kernel_rfl
@[go_sem] theorem tz181 : tz Tryz.prog 181 = AV.agg [AV.str [], AV.nls, AV.npt, AV.int IntKind.i64 0, AV.int IntKind.i64 0, AV.int IntKind.i64 0] := by kernel_rfl
@[go_sem] theorem dz181 : dz Tryz.prog 181 = AV.agg [AV.str [], AV.sl 1 [], AV.npt, AV.int IntKind.i64 0, AV.int IntKind.i64 0, AV.int IntKind.i64 0] := by kernel_rfl
@[go_sem] theorem eb181 : eb Tryz.prog 181 = some 72 := by kernel_rfl
@[go_sem] theorem tk182 : tk Tryz.prog 182 = TK.leaf := by kernel_rfl
@[go_sem] theorem tz182 : tz Tryz.prog 182 = AV.nfn := by kernel_rfl
@[go_sem] theorem dz182 : dz Tryz.prog 182 = AV.nfn := by kernel_rfl
@[go_sem] theorem tk183 : tk Tryz.prog 183 = TK.leaf := by kernel_rfl
@[go_sem] theorem tz183 : tz Tryz.prog 183 = AV.npt := by kernel_rfl
@[go_sem] theorem dz183 : dz Tryz.prog 183 = AV.npt := by kernel_rfl
@[go_sem] theorem pt183 : ptrT Tryz.prog 183 = true := by kernel_rfl
@[go_sem] theorem tk184 : tk Tryz.prog 184 = TK.leaf := by kernel_rfl
@[go_sem] theorem tz184 : tz Tryz.prog 184 = AV.nfn := by kernel_rfl
@[go_sem] theorem dz184 : dz Tryz.prog 184 = AV.nfn := by kernel_rfl
@[go_sem] theorem tk185 : tk Tryz.prog 185 = TK.struct 2 [some (0, 1), some (1, 1)] := by kernel_rfl
@[go_sem] theorem tz185 : tz Tryz.prog 185 = AV.agg [AV.npt, AV.int IntKind.i64 0] := by kernel_rfl
@[go_sem] theorem dz185 : dz Tryz.prog 185 = AV.agg [AV.npt, AV.int IntKind.i64 0] := by kernel_rfl
@[go_sem] theorem eb185 : eb Tryz.prog 185 = some 16 := by kernel_rfl
@[go_sem] theorem tk186 : tk Tryz.prog 186 = TK.struct 2 [some (0, 1), some (1, 1)] := by kernel_rfl
@[go_sem] theorem tz186 : tz Tryz.prog 186 = AV.agg [AV.npt, AV.int IntKind.i64 0] := by kernel_rfl
@[go_sem] theorem dz186 : dz Tryz.prog 186 = AV.agg [AV.npt, AV.int IntKind.i64 0] := by kernel_rfl
@[go_sem] theorem eb186 : eb Tryz.prog 186 = some 16 := by kernel_rfl
@[go_sem] theorem tk187 : tk Tryz.prog 187 = TK.leaf := by kernel_rfl
@[go_sem] theorem tz187 : tz Tryz.prog 187 = AV.nfn := by kernel_rfl
@[go_sem] theorem dz187 : dz Tryz.prog 187 = AV.nfn := by kernel_rfl
@[go_sem] theorem tk188 : tk Tryz.prog 188 = TK.leaf := by kernel_rfl
@[go_sem] theorem tz188 : tz Tryz.prog 188 = AV.nfn := by kernel_rfl
@[go_sem] theorem dz188 : dz Tryz.prog 188 = AV.nfn := by kernel_rfl
@[go_sem] theorem tk189 : tk Tryz.prog 189 = TK.struct 1 [some (0, 1)] := by kernel_rfl
@[go_sem] theorem tz189 : tz Tryz.prog 189 = AV.agg [AV.nls] := by kernel_rfl
@[go_sem] theorem dz189 : dz Tryz.prog 189 = AV.agg [AV.sl 2 []] := by kernel_rfl
@[go_sem] theorem eb189 : eb Tryz.prog 189 = some 24 := by kernel_rfl
@[go_sem] theorem tk190 : tk Tryz.prog 190 = TK.struct 1 [some (0, 1)] := by kernel_rfl
@[go_sem] theorem tz190 : tz Tryz.prog 190 = AV.agg [AV.nls] := by kernel_rfl
@[go_sem] theorem dz190 : dz Tryz.prog 190 = AV.agg [AV.sl 2 []] := by kernel_rfl
@[go_sem] theorem eb190 : eb Tryz.prog 190 = some 24 := by kernel_rfl
@[go_sem] theorem tk191 : tk Tryz.prog 191 = TK.slice 151 5 := by kernel_rfl
@[go_sem] theorem tz191 : tz Tryz.prog 191 = AV.nls := by kernel_rfl
@[go_sem] theorem dz191 : dz Tryz.prog 191 = AV.sl 5 [] := by kernel_rfl
@[go_sem] theorem eb191 : eb Tryz.prog 191 = some 24 := by kernel_rfl
@[go_sem] theorem tk192 : tk Tryz.prog 192 = TK.leaf := by kernel_rfl
@[go_sem] theorem tz192 : tz Tryz.prog 192 = AV.nfn := by kernel_rfl
@[go_sem] theorem dz192 : dz Tryz.prog 192 = AV.nfn := by kernel_rfl
@[go_sem] theorem tk193 : tk Tryz.prog 193 = TK.struct 1 [some (0, 1)] := by kernel_rfl
@[go_sem] theorem tz193 : tz Tryz.prog 193 = AV.agg [AV.nls] := by kernel_rfl
@[go_sem] theorem dz193 : dz Tryz.prog 193 = AV.agg [AV.sl 5 []] := by kernel_rfl
@[go_sem] theorem eb193 : eb Tryz.prog 193 = some 24 := by kernel_rfl
@[go_sem] theorem tk194 : tk Tryz.prog 194 = TK.struct 1 [some (0, 1)] := by kernel_rfl
@[go_sem] theorem tz194 : tz Tryz.prog 194 = AV.agg [AV.nls] := by kernel_rfl
@[go_sem] theorem dz194 : dz Tryz.prog 194 = AV.agg [AV.sl 5 []] := by kernel_rfl
@[go_sem] theorem eb194 : eb Tryz.prog 194 = some 24 := by kernel_rfl
@[go_sem] theorem tk195 : tk Tryz.prog 195 = TK.leaf := by kernel_rfl
@[go_sem] theorem tz195 : tz Tryz.prog 195 = AV.nfn := by kernel_rfl
@[go_sem] theorem dz195 : dz Tryz.prog 195 = AV.nfn := by kernel_rfl
@[go_sem] theorem tk197 : tk Tryz.prog 197 = TK.leaf := by kernel_rfl
@[go_sem] theorem tz197 : tz Tryz.prog 197 = AV.nfn := by kernel_rfl
@[go_sem] theorem dz197 : dz Tryz.prog 197 = AV.nfn := by kernel_rfl
@[go_sem] theorem tk198 : tk Tryz.prog 198 = TK.leaf := by kernel_rfl
@[go_sem] theorem tz198 : tz Tryz.prog 198 = AV.nfn := by kernel_rfl
@[go_sem] theorem dz198 : dz Tryz.prog 198 = AV.nfn := by kernel_rfl
@[go_sem] theorem tk199 : tk Tryz.prog 199 = TK.leaf := by kernel_rfl
@[go_sem] theorem tz199 : tz Tryz.prog 199 = AV.nfn := by kernel_rfl
@[go_sem] theorem dz199 : dz Tryz.prog 199 = AV.nfn := by kernel_rfl
@[go_sem] theorem tk200 : tk Tryz.prog 200 = TK.leaf := by kernel_rfl
@[go_sem] theorem tz200 : tz Tryz.prog 200 = AV.nfn := by kernel_rfl
@[go_sem] theorem dz200 : dz Tryz.prog 200 = AV.nfn := by kernel_rfl
@[go_sem] theorem tk201 : tk Tryz.prog 201 = TK.struct 3 [some (0, 1), some (1, 1), some (2, 1)] := by kernel_rfl
@[go_sem] theorem tz201 : tz Tryz.prog 201 = AV.agg [AV.int IntKind.i64 0, AV.nls, AV.nls] := by kernel_rfl
@[go_sem] theorem dz201 : dz Tryz.prog 201 = AV.agg [AV.int IntKind.i64 0, AV.sl 1 [], AV.sl 1 []] := by kernel_rfl
@[go_sem] theorem eb201 : eb Tryz.prog 201 = some 56 := by kernel_rfl
@[go_sem] theorem tk202 : tk Tryz.prog 202 = TK.struct 3 [some (0, 1), some (1, 1), some (2, 1)] := by kernel_rfl
@[go_sem] theorem tz202 : tz Tryz.prog 202 = AV.agg [AV.int IntKind.i64 0, AV.nls, AV.nls] := by kernel_rfl
@[go_sem] theorem dz202 : dz Tryz.prog 202 = AV.agg [AV.int IntKind.i64 0, AV.sl 1 [], AV.sl 1 []] := by kernel_rfl
@[go_sem] theorem eb202 : eb Tryz.prog 202 = some 56 := by kernel_rfl
@[go_sem] theorem tk204 : tk Tryz.prog 204 = TK.leaf := by kernel_rfl
@[go_sem] theorem tz204 : tz Tryz.prog 204 = AV.nfn := by kernel_rfl
@[go_sem] theorem dz204 : dz Tryz.prog 204 = AV.nfn := by kernel_rfl
@[go_sem] theorem tk206 : tk Tryz.prog 206 = TK.leaf := by kernel_rfl
@[go_sem] theorem tz206 : tz Tryz.prog 206 = AV.nfn := by kernel_rfl
@[go_sem] theorem dz206 : dz Tryz.prog 206 = AV.nfn := by kernel_rfl
@[go_sem] theorem tk207 : tk Tryz.prog 207 = TK.leaf := by kernel_rfl
@[go_sem] theorem tz207 : tz Tryz.prog 207 = AV.nfn := by kernel_rfl
@[go_sem] theorem dz207 : dz Tryz.prog 207 = AV.nfn := by kernel_rfl
@[go_sem] theorem tk208 : tk Tryz.prog 208 = TK.leaf := by kernel_rfl
@[go_sem] theorem tz208 : tz Tryz.prog 208 = AV.nfn := by kernel_rfl
@[go_sem] theorem dz208 : dz Tryz.prog 208 = AV.nfn := by kernel_rfl
@[go_sem] theorem tk209 : tk Tryz.prog 209 = TK.leaf := by kernel_rfl
@[go_sem] theorem tz209 : tz Tryz.prog 209 = AV.nfn := by kernel_rfl
@[go_sem] theorem dz209 : dz Tryz.prog 209 = AV.nfn := by kernel_rfl
@[go_sem] theorem tk210 : tk Tryz.prog 210 = TK.leaf := by kernel_rfl
@[go_sem] theorem tz210 : tz Tryz.prog 210 = AV.nfn := by kernel_rfl
@[go_sem] theorem dz210 : dz Tryz.prog 210 = AV.nfn := by kernel_rfl
@[go_sem] theorem tk211 : tk Tryz.prog 211 = TK.leaf := by kernel_rfl
@[go_sem] theorem tz211 : tz Tryz.prog 211 = AV.nfn := by kernel_rfl
@[go_sem] theorem dz211 : dz Tryz.prog 211 = AV.nfn := by kernel_rfl
@[go_sem] theorem tk212 : tk Tryz.prog 212 = TK.leaf := by kernel_rfl
@[go_sem] theorem tz212 : tz Tryz.prog 212 = AV.nfn := by kernel_rfl
@[go_sem] theorem dz212 : dz Tryz.prog 212 = AV.nfn := by kernel_rfl
@[go_sem] theorem tk214 : tk Tryz.prog 214 = TK.leaf := by kernel_rfl
@[go_sem] theorem tz214 : tz Tryz.prog 214 = AV.nfn := by kernel_rfl
@[go_sem] theorem dz214 : dz Tryz.prog 214 = AV.nfn := by kernel_rfl
@[go_sem] theorem tk215 : tk Tryz.prog 215 = TK.leaf := by kernel_rfl
@[go_sem] theorem tz215 : tz Tryz.prog 215 = AV.nfn := by kernel_rfl
@[go_sem] theorem dz215 : dz Tryz.prog 215 = AV.nfn := by kernel_rfl
@[go_sem] theorem tk216 : tk Tryz.prog 216 = TK.leaf := by kernel_rfl
@[go_sem] theorem tz216 : tz Tryz.prog 216 = AV.nfn := by kernel_rfl
@[go_sem] theorem dz216 : dz Tryz.prog 216 = AV.nfn := by kernel_rfl
@[go_sem] theorem tk217 : tk Tryz.prog 217 = TK.leaf := by kernel_rfl
@[go_sem] theorem tz217 : tz Tryz.prog 217 = AV.nfn := by kernel_rfl
@[go_sem] theorem dz217 : dz Tryz.prog 217 = AV.nfn := by kernel_rfl
@[go_sem] theorem tk218 : tk Tryz.prog 218 = TK.leaf := by kernel_rfl
@[go_sem] theorem tz218 : tz Tryz.prog 218 = AV.nfn := by kernel_rfl
@[go_sem] theorem dz218 : dz Tryz.prog 218 = AV.nfn := by kernel_rfl
@[go_sem] theorem tk219 : tk Tryz.prog 219 = TK.slice 179 3 := by kernel_rfl
@[go_sem] theorem tz219 : tz Tryz.prog 219 = AV.nls := by kernel_rfl
@[go_sem] theorem dz219 : dz Tryz.prog 219 = AV.sl 3 [] := by kernel_rfl
@[go_sem] theorem eb219 : eb Tryz.prog 219 = some 24 := by kernel_rfl
@[go_sem] theorem tk220 : tk Tryz.prog 220 = TK.leaf := by kernel_rfl
@[go_sem] theorem tz220 : tz Tryz.prog 220 = AV.nfn := by kernel_rfl
@[go_sem] theorem dz220 : dz Tryz.prog 220 = AV.nfn := by kernel_rfl
@[go_sem] theorem tk221 : tk Tryz.prog 221 = TK.struct 1 [some (0, 1)] := by kernel_rfl
@[go_sem] theorem tz221 : tz Tryz.prog 221 = AV.agg [AV.nls] := by kernel_rfl
@[go_sem] theorem dz221 : dz Tryz.prog 221 = AV.agg [AV.sl 3 []] := by kernel_rfl
@[go_sem] theorem eb221 : eb Tryz.prog 221 = some 24 := by kernel_rfl
@[go_sem] theorem tk222 : tk Tryz.prog 222 = TK.struct 1 [some (0, 1)] := by kernel_rfl
@[go_sem] theorem tz222 : tz Tryz.prog 222 = AV.agg [AV.nls] := by kernel_rfl
@[go_sem] theorem dz222 : dz Tryz.prog 222 = AV.agg [AV.sl 3 []] := by kernel_rfl
@[go_sem] theorem eb222 : eb Tryz.prog 222 = some 24 := by kernel_rfl
@[go_sem] theorem tk223 : tk Tryz.prog 223 = TK.leaf := by kernel_rfl
@[go_sem] theorem tz223 : tz Tryz.prog 223 = AV.nfn := by kernel_rfl
@[go_sem] theorem dz223 : dz Tryz.prog 223 = AV.nfn := by kernel_rfl
@[go_sem] theorem tk224 : tk Tryz.prog 224 = TK.slice 3 1 := by kernel_rfl
@[go_sem] theorem tz224 : tz Tryz.prog 224 = AV.nls := by kernel_rfl
@[go_sem] theorem dz224 : dz Tryz.prog 224 = AV.sl 1 [] := by kernel_rfl
@[go_sem] theorem eb224 : eb Tryz.prog 224 = some 24 := by kernel_rfl
@[go_sem] theorem tk225 : tk Tryz.prog 225 = TK.leaf := by kernel_rfl
@[go_sem] theorem tz225 : tz Tryz.prog 225 = AV.nfn := by kernel_rfl
@[go_sem] theorem dz225 : dz Tryz.prog 225 = AV.nfn := by kernel_rfl
@[go_sem] theorem tk226 : tk Tryz.prog 226 = TK.struct 1 [some (0, 1)] := by kernel_rfl
@[go_sem] theorem tz226 : tz Tryz.prog 226 = AV.agg [AV.nls] := by kernel_rfl
@[go_sem] theorem dz226 : dz Tryz.prog 226 = AV.agg [AV.sl 1 []] := by kernel_rfl
@[go_sem] theorem eb226 : eb Tryz.prog 226 = some 24 := by kernel_rfl
@[go_sem] theorem tk227 : tk Tryz.prog 227 = TK.struct 1 [some (0, 1)] := by kernel_rfl
@[go_sem] theorem tz227 : tz Tryz.prog 227 = AV.agg [AV.nls] := by kernel_rfl
@[go_sem] theorem dz227 : dz Tryz.prog 227 = AV.agg [AV.sl 1 []] := by kernel_rfl
@[go_sem] theorem eb227 : eb Tryz.prog 227 = some 24 := by kernel_rfl
@[go_sem] theorem tk228 : tk Tryz.prog 228 = TK.leaf := by kernel_rfl
@[go_sem] theorem tz228 : tz Tryz.prog 228 = AV.nfn := by kernel_rfl
@[go_sem] theorem dz228 : dz Tryz.prog 228 = AV.nfn := by kernel_rfl
@[go_sem] theorem tk229 : tk Tryz.prog 229 = TK.leaf := by kernel_rfl
@[go_sem] theorem tz229 : tz Tryz.prog 229 = AV.nfn := by kernel_rfl
@[go_sem] theorem dz229 : dz Tryz.prog 229 = AV.nfn := by kernel_rfl
@[go_sem] theorem tk230 : tk Tryz.prog 230 = TK.leaf := by kernel_rfl
@[go_sem] theorem tz230 : tz Tryz.prog 230 = AV.nfn := by kernel_rfl
@[go_sem] theorem dz230 : dz Tryz.prog 230 = AV.nfn := by kernel_rfl
@[go_sem] theorem tk232 : tk Tryz.prog 232 = TK.leaf := by kernel_rfl
@[go_sem] theorem tz232 : tz Tryz.prog 232 = AV.nfn := by kernel_rfl
@[go_sem] theorem dz232 : dz Tryz.prog 232 = AV.nfn := by kernel_rfl
@[go_sem] theorem tk233 : tk Tryz.prog 233 = TK.leaf := by kernel_rfl
@[go_sem] theorem tz233 : tz Tryz.prog 233 = AV.nfn := by kernel_rfl
@[go_sem] theorem dz233 : dz Tryz.prog 233 = AV.nfn := by kernel_rfl
@[go_sem] theorem tk234 : tk Tryz.prog 234 = TK.leaf := by kernel_rfl
@[go_sem] theorem tz234 : tz Tryz.prog 234 = AV.nfn := by kernel_rfl
@[go_sem] theorem dz234 : dz Tryz.prog 234 = AV.nfn := by kernel_rfl
@[go_sem] theorem tk235 : tk Tryz.prog 235 = TK.leaf := by kernel_rfl
@[go_sem] theorem tz235 : tz Tryz.prog 235 = AV.nfn := by kernel_rfl
@[go_sem] theorem dz235 : dz Tryz.prog 235 = AV.nfn := by kernel_rfl
@[go_sem] theorem tk236 : tk Tryz.prog 236 = TK.leaf := by kernel_rfl
@[go_sem] theorem tz236 : tz Tryz.prog 236 = AV.nfn := by kernel_rfl
@[go_sem] theorem dz236 : dz Tryz.prog 236 = AV.nfn := by kernel_rfl
@[go_sem] theorem tk237 : tk Tryz.prog 237 = TK.leaf := by kernel_rfl
@[go_sem] theorem tz237 : tz Tryz.prog 237 = AV.nfn := by kernel_rfl
@[go_sem] theorem dz237 : dz Tryz.prog 237 = AV.nfn := by kernel_rfl
@[go_sem] theorem tk238 : tk Tryz.prog 238 = TK.leaf := by kernel_rfl
@[go_sem] theorem tz238 : tz Tryz.prog 238 = AV.nfn := by kernel_rfl
@[go_sem] theorem dz238 : dz Tryz.prog 238 = AV.nfn := by kernel_rfl
@[go_sem] theorem tk239 : tk Tryz.prog 239 = TK.leaf := by kernel_rfl
@[go_sem] theorem tz239 : tz Tryz.prog 239 = AV.nfn := by kernel_rfl
@[go_sem] theorem dz239 : dz Tryz.prog 239 = AV.nfn := by kernel_rfl
@[go_sem] theorem tk240 : tk Tryz.prog 240 = TK.leaf := by kernel_rfl
@[go_sem] theorem tz240 : tz Tryz.prog 240 = AV.nfn := by kernel_rfl
@[go_sem] theorem dz240 : dz Tryz.prog 240 = AV.nfn := by kernel_rfl
@[go_sem] theorem tk241 : tk Tryz.prog 241 = TK.leaf := by kernel_rfl
@[go_sem] theorem tz241 : tz Tryz.prog 241 = AV.nfn := by kernel_rfl
@[go_sem] theorem dz241 : dz Tryz.prog 241 = AV.nfn := by kernel_rfl
@[go_sem] theorem tk242 : tk Tryz.prog 242 = TK.struct 5 [some (0, 1), some (1, 2), some (3, 2)] := by kernel_rfl
@[go_sem] theorem tz242 : tz Tryz.prog 242 = AV.agg [AV.int IntKind.i64 0, AV.int IntKind.i64 0, AV.int IntKind.i64 0, AV.int IntKind.i64 0, AV.int IntKind.i64 0] := by kernel_rfl
@[go_sem] theorem dz242 : dz Tryz.prog 242 = AV.agg [AV.int IntKind.i64 0, AV.int IntKind.i64 0, AV.int IntKind.i64 0, AV.int IntKind.i64 0, AV.int IntKind.i64 0] := by kernel_rfl
@[go_sem] theorem eb242 : eb Tryz.prog 242 = some 40 := by kernel_rfl
@[go_sem] theorem eq242 : eqK Tryz.prog 242 = some [1, 1, 1, 1, 1] := by kernel_rfl
@[go_sem] theorem tk243 : tk Tryz.prog 243 = TK.struct 5 [some (0, 1), some (1, 2), some (3, 2)] := by kernel_rfl
@[go_sem] theorem tz243 : tz Tryz.prog 243 = AV.agg [AV.int IntKind.i64 0, AV.int IntKind.i64 0, AV.int IntKind.i64 0, AV.int IntKind.i64 0, AV.int IntKind.i64 0] := by kernel_rfl
@[go_sem] theorem dz243 : dz Tryz.prog 243 = AV.agg [AV.int IntKind.i64 0, AV.int IntKind.i64 0, AV.int IntKind.i64 0, AV.int IntKind.i64 0, AV.int IntKind.i64 0] := by kernel_rfl
@[go_sem] theorem eb243 : eb Tryz.prog 243 = some 40 := by kernel_rfl
@[go_sem] theorem eq243 : eqK Tryz.prog 243 = some [1, 1, 1, 1, 1] := by kernel_rfl
@[go_sem] theorem tk245 : tk Tryz.prog 245 = TK.leaf := by kernel_rfl
@[go_sem] theorem tz245 : tz Tryz.prog 245 = AV.nfn := by kernel_rfl
@[go_sem] theorem dz245 : dz Tryz.prog 245 = AV.nfn := by kernel_rfl
@[go_sem] theorem tk246 : tk Tryz.prog 246 = TK.leaf := by kernel_rfl
@[go_sem] theorem tz246 : tz Tryz.prog 246 = AV.nfn := by kernel_rfl
@[go_sem] theorem dz246 : dz Tryz.prog 246 = AV.nfn := by kernel_rfl
@[go_sem] theorem tk248 : tk Tryz.prog 248 = TK.leaf := by kernel_rfl
@[go_sem] theorem tz248 : tz Tryz.prog 248 = AV.nfn := by kernel_rfl
@[go_sem] theorem dz248 : dz Tryz.prog 248 = AV.nfn := by kernel_rfl
@[go_sem] theorem tk249 : tk Tryz.prog 249 = TK.leaf := by kernel_rfl
@[go_sem] theorem tz249 : tz Tryz.prog 249 = AV.nfn := by kernel_rfl
@[go_sem] theorem dz249 : dz Tryz.prog 249 = AV.nfn := by kernel_rfl
@[go_sem] theorem tk250 : tk Tryz.prog 250 = TK.leaf := by kernel_rfl
@[go_sem] theorem tz250 : tz Tryz.prog 250 = AV.nfn := by kernel_rfl
@[go_sem] theorem dz250 : dz Tryz.prog 250 = AV.nfn := by kernel_rfl
@[go_sem] theorem tk251 : tk Tryz.prog 251 = TK.leaf := by kernel_rfl
@[go_sem] theorem tz251 : tz Tryz.prog 251 = AV.nfn := by kernel_rfl
@[go_sem] theorem dz251 : dz Tryz.prog 251 = AV.nfn := by kernel_rfl
@[go_sem] theorem tk252 : tk Tryz.prog 252 = TK.leaf := by kernel_rfl
@[go_sem] theorem tz252 : tz Tryz.prog 252 = AV.nfn := by kernel_rfl
@[go_sem] theorem dz252 : dz Tryz.prog 252 = AV.nfn := by kernel_rfl
@[go_sem] theorem tk254 : tk Tryz.prog 254 = TK.leaf := by kernel_rfl
@[go_sem] theorem tz254 : tz Tryz.prog 254 = AV.nfn := by kernel_rfl
@[go_sem] theorem dz254 : dz Tryz.prog 254 = AV.nfn := by kernel_rfl
@[go_sem] theorem tk255 : tk Tryz.prog 255 = TK.leaf := by kernel_rfl
@[go_sem] theorem tz255 : tz Tryz.prog 255 = AV.nfn := by kernel_rfl
@[go_sem] theorem dz255 : dz Tryz.prog 255 = AV.nfn := by kernel_rfl
@[go_sem] theorem tk256 : tk Tryz.prog 256 = TK.leaf := by kernel_rfl
@[go_sem] theorem tz256 : tz Tryz.prog 256 = AV.nfn := by kernel_rfl
@[go_sem] theorem dz256 : dz Tryz.prog 256 = AV.nfn := by kernel_rfl
@[go_sem] theorem tk257 : tk Tryz.prog 257 = TK.leaf := by kernel_rfl
@[go_sem] theorem tz257 : tz Tryz.prog 257 = AV.nfn := by kernel_rfl
@[go_sem] theorem dz257 : dz Tryz.prog 257 = AV.nfn := by kernel_rfl
@[go_sem] theorem tk258 : tk Tryz.prog 258 = TK.leaf := by kernel_rfl
@[go_sem] theorem tz258 : tz Tryz.prog 258 = AV.nfn := by kernel_rfl
@[go_sem] theorem dz258 : dz Tryz.prog 258 = AV.nfn := by kernel_rfl
@[go_sem] theorem tk259 : tk Tryz.prog 259 = TK.leaf := by kernel_rfl
@[go_sem] theorem tz259 : tz Tryz.prog 259 = AV.nfn := by kernel_rfl
@[go_sem] theorem dz259 : dz Tryz.prog 259 = AV.nfn := by kernel_rfl
@[go_sem] theorem tk260 : tk Tryz.prog 260 = TK.leaf := by kernel_rfl
@[go_sem] theorem tz260 : tz Tryz.prog 260 = AV.nfn := by kernel_rfl
@[go_sem] theorem dz260 : dz Tryz.prog 260 = AV.nfn := by kernel_rfl
@[go_sem] theorem tk261 : tk Tryz.prog 261 = TK.leaf := by kernel_rfl
@[go_sem] theorem tz261 : tz Tryz.prog 261 = AV.nfn := by kernel_rfl
@[go_sem] theorem dz261 : dz Tryz.prog 261 = AV.nfn := by kernel_rfl
@[go_sem] theorem tk262 : tk Tryz.prog 262 = TK.leaf := by kernel_rfl
@[go_sem] theorem tz262 : tz Tryz.prog 262 = AV.nfn := by kernel_rfl
@[go_sem] theorem dz262 : dz Tryz.prog 262 = AV.nfn := by kernel_rfl
@[go_sem] theorem tk263 : tk Tryz.prog 263 = TK.leaf := by kernel_rfl
@[go_sem] theorem tz263 : tz Tryz.prog 263 = AV.nfn := by kernel_rfl
@[go_sem] theorem dz263 : dz Tryz.prog 263 = AV.nfn := by kernel_rfl
@[go_sem] theorem tk264 : tk Tryz.prog 264 = TK.leaf := by kernel_rfl
@[go_sem] theorem tz264 : tz Tryz.prog 264 = AV.nfn := by kernel_rfl
@[go_sem] theorem dz264 : dz Tryz.prog 264 = AV.nfn := by kernel_rfl
@[go_sem] theorem tk265 : tk Tryz.prog 265 = TK.leaf := by kernel_rfl
@[go_sem] theorem tz265 : tz Tryz.prog 265 = AV.nfn := by kernel_rfl
@[go_sem] theorem dz265 : dz Tryz.prog 265 = AV.nfn := by kernel_rfl
@[go_sem] theorem tk266 : tk Tryz.prog 266 = TK.leaf := by kernel_rfl
@[go_sem] theorem tz266 : tz Tryz.prog 266 = AV.nfn := by kernel_rfl
@[go_sem] theorem dz266 : dz Tryz.prog 266 = AV.nfn := by kernel_rfl
@[go_sem] theorem tk267 : tk Tryz.prog 267 = TK.leaf := by kernel_rfl
@[go_sem] theorem tz267 : tz Tryz.prog 267 = AV.nfn := by kernel_rfl
@[go_sem] theorem dz267 : dz Tryz.prog 267 = AV.nfn := by kernel_rfl
@[go_sem] theorem tk268 : tk Tryz.prog 268 = TK.leaf := by kernel_rfl
@[go_sem] theorem tz268 : tz Tryz.prog 268 = AV.nfn := by kernel_rfl
@[go_sem] theorem dz268 : dz Tryz.prog 268 = AV.nfn := by kernel_rfl
@[go_sem] theorem tk269 : tk Tryz.prog 269 = TK.leaf := by kernel_rfl
@[go_sem] theorem tz269 : tz Tryz.prog 269 = AV.nfn := by kernel_rfl
@[go_sem] theorem dz269 : dz Tryz.prog 269 = AV.nfn := by kernel_rfl
@[go_sem] theorem tk270 : tk Tryz.prog 270 = TK.leaf := by kernel_rfl
@[go_sem] theorem tz270 : tz Tryz.prog 270 = AV.nfn := by kernel_rfl
@[go_sem] theorem dz270 : dz Tryz.prog 270 = AV.nfn := by kernel_rfl
@[go_sem] theorem tk271 : tk Tryz.prog 271 = TK.leaf := by kernel_rfl
@[go_sem] theorem tz271 : tz Tryz.prog 271 = AV.nfn := by kernel_rfl
@[go_sem] theorem dz271 : dz Tryz.prog 271 = AV.nfn := by kernel_rfl
@[go_sem] theorem tk272 : tk Tryz.prog 272 = TK.leaf := by kernel_rfl
@[go_sem] theorem tz272 : tz Tryz.prog 272 = AV.nfn := by kernel_rfl
@[go_sem] theorem dz272 : dz Tryz.prog 272 = AV.nfn := by kernel_rfl
@[go_sem] theorem tk273 : tk Tryz.prog 273 = TK.leaf := by kernel_rfl
@[go_sem] theorem tz273 : tz Tryz.prog 273 = AV.nfn := by kernel_rfl
@[go_sem] theorem dz273 : dz Tryz.prog 273 = AV.nfn := by kernel_rfl
@[go_sem] theorem tk275 : tk Tryz.prog 275 = TK.struct 2 [some (0, 1), some (1, 1)] := by kernel_rfl
@[go_sem] theorem tz275 : tz Tryz.prog 275 = AV.agg [AV.int IntKind.u8 0, AV.int IntKind.u8 0] := by kernel_rfl
@[go_sem] theorem dz275 : dz Tryz.prog 275 = AV.agg [AV.int IntKind.u8 0, AV.int IntKind.u8 0] := by kernel_rfl
@[go_sem] theorem eb275 : eb Tryz.prog 275 = some 2 := by kernel_rfl
@[go_sem] theorem eq275 : eqK Tryz.prog 275 = some [1, 1] := by kernel_rfl
@[go_sem] theorem tk276 : tk Tryz.prog 276 = TK.struct 2 [some (0, 1), some (1, 1)] := by kernel_rfl
@[go_sem] theorem tz276 : tz Tryz.prog 276 = AV.agg [AV.int IntKind.u8 0, AV.int IntKind.u8 0] := by kernel_rfl
@[go_sem] theorem dz276 : dz Tryz.prog 276 = AV.agg [AV.int IntKind.u8 0, AV.int IntKind.u8 0] := by kernel_rfl
@[go_sem] theorem eb276 : eb Tryz.prog 276 = some 2 := by kernel_rfl
@[go_sem] theorem eq276 : eqK Tryz.prog 276 = some [1, 1] := by kernel_rfl
@[go_sem] theorem tk277 : tk Tryz.prog 277 = TK.arr 16 276 2 32 := by kernel_rfl
@[go_sem] theorem tz277 : tz Tryz.prog 277 = AV.agg [AV.int IntKind.u8 0, AV.int IntKind.u8 0, AV.int IntKind.u8 0, AV.int IntKind.u8 0, AV.int IntKind.u8 0, AV.int IntKind.u8 0, AV.int IntKind.u8 0, AV.int IntKind.u8 0, AV.int IntKind.u8 0, AV.int IntKind.u8 0, AV.int IntKind.u8 0, AV.int IntKind.u8 0, AV.int IntKind.u8 0, AV.int IntKind.u8 0, AV.int IntKind.u8 0, AV.int IntKind.u8 0, AV.int IntKind.u8 0, AV.int IntKind.u8 0, AV.int IntKind.u8 0, AV.int IntKind.u8 0, AV.int IntKind.u8 0, AV.int IntKind.u8 0, AV.int IntKind.u8 0, AV.int IntKind.u8 0, AV.int IntKind.u8 0, AV.int IntKind.u8 0, AV.int IntKind.u8 0, AV.int IntKind.u8 0, AV.int IntKind.u8 0, AV.int IntKind.u8 0, AV.int IntKind.u8 0, AV.int IntKind.u8 0] := by kernel_rfl
@[go_sem] theorem dz277 : dz Tryz.prog 277 = AV.agg [AV.int IntKind.u8 0, AV.int IntKind.u8 0, AV.int IntKind.u8 0, AV.int IntKind.u8 0, AV.int IntKind.u8 0, AV.int IntKind.u8 0, AV.int IntKind.u8 0, AV.int IntKind.u8 0, AV.int IntKind.u8 0, AV.int IntKind.u8 0, AV.int IntKind.u8 0, AV.int IntKind.u8 0, AV.int IntKind.u8 0, AV.int IntKind.u8 0, AV.int IntKind.u8 0, AV.int IntKind.u8 0, AV.int IntKind.u8 0, AV.int IntKind.u8 0, AV.int IntKind.u8 0, AV.int IntKind.u8 0, AV.int IntKind.u8 0, AV.int IntKind.u8 0, AV.int IntKind.u8 0, AV.int IntKind.u8 0, AV.int IntKind.u8 0, AV.int IntKind.u8 0, AV.int IntKind.u8 0, AV.int IntKind.u8 0, AV.int IntKind.u8 0, AV.int IntKind.u8 0, AV.int IntKind.u8 0, AV.int IntKind.u8 0] := by kernel_rfl
@[go_sem] theorem eb277 : eb Tryz.prog 277 = some 32 := by kernel_rfl
@[go_sem] theorem tk278 : tk Tryz.prog 278 = TK.int IntKind.u32 := by kernel_rfl
@[go_sem] theorem tz278 : tz Tryz.prog 278 = AV.int IntKind.u32 0 := by kernel_rfl
@[go_sem] theorem dz278 : dz Tryz.prog 278 = AV.int IntKind.u32 0 := by kernel_rfl
@[go_sem] theorem eb278 : eb Tryz.prog 278 = some 4 := by kernel_rfl
@[go_sem] theorem eq278 : eqK Tryz.prog 278 = some [1] := by kernel_rfl
@[go_sem] theorem tk280 : tk Tryz.prog 280 = TK.leaf := by kernel_rfl
@[go_sem] theorem tz280 : tz Tryz.prog 280 = AV.nfn := by kernel_rfl
@[go_sem] theorem dz280 : dz Tryz.prog 280 = AV.nfn := by kernel_rfl
@[go_sem] theorem tk281 : tk Tryz.prog 281 = TK.leaf := by kernel_rfl
@[go_sem] theorem tz281 : tz Tryz.prog 281 = AV.nfn := by kernel_rfl
@[go_sem] theorem dz281 : dz Tryz.prog 281 = AV.nfn := by kernel_rfl
@[go_sem] theorem tk282 : tk Tryz.prog 282 = TK.leaf := by kernel_rfl
@[go_sem] theorem tz282 : tz Tryz.prog 282 = AV.nfn := by kernel_rfl
@[go_sem] theorem dz282 : dz Tryz.prog 282 = AV.nfn := by kernel_rfl
@[go_sem] theorem tk283 : tk Tryz.prog 283 = TK.leaf := by kernel_rfl
@[go_sem] theorem tz283 : tz Tryz.prog 283 = AV.nfn := by kernel_rfl
@[go_sem] theorem dz283 : dz Tryz.prog 283 = AV.nfn := by kernel_rfl
@[go_sem] theorem tk284 : tk Tryz.prog 284 = TK.struct 4 [some (0, 1), some (1, 1), some (2, 1), some (3, 1)] := by kernel_rfl
@[go_sem] theorem tz284 : tz Tryz.prog 284 = AV.agg [AV.int IntKind.i64 0, AV.int IntKind.i64 0, AV.int IntKind.i64 0, AV.bool false] := by kernel_rfl
@[go_sem] theorem dz284 : dz Tryz.prog 284 = AV.agg [AV.int IntKind.i64 0, AV.int IntKind.i64 0, AV.int IntKind.i64 0, AV.bool false] := by kernel_rfl
@[go_sem] theorem eb284 : eb Tryz.prog 284 = some 32 := by kernel_rfl
@[go_sem] theorem eq284 : eqK Tryz.prog 284 = some [1, 1, 1, 0] := by kernel_rfl
@[go_sem] theorem tk285 : tk Tryz.prog 285 = TK.struct 4 [some (0, 1), some (1, 1), some (2, 1), some (3, 1)] := by kernel_rfl
@[go_sem] theorem tz285 : tz Tryz.prog 285 = AV.agg [AV.int IntKind.i64 0, AV.int IntKind.i64 0, AV.int IntKind.i64 0, AV.bool false] := by kernel_rfl
@[go_sem] theorem dz285 : dz Tryz.prog 285 = AV.agg [AV.int IntKind.i64 0, AV.int IntKind.i64 0, AV.int IntKind.i64 0, AV.bool false] := by kernel_rfl
@[go_sem] theorem eb285 : eb Tryz.prog 285 = some 32 := by kernel_rfl
@[go_sem] theorem eq285 : eqK Tryz.prog 285 = some [1, 1, 1, 0] := by kernel_rfl
@[go_sem] theorem tk286 : tk Tryz.prog 286 = TK.leaf := by kernel_rfl
@[go_sem] theorem tz286 : tz Tryz.prog 286 = AV.nfn := by kernel_rfl
@[go_sem] theorem dz286 : dz Tryz.prog 286 = AV.nfn := by kernel_rfl
@[go_sem] theorem tk287 : tk Tryz.prog 287 = TK.leaf := by kernel_rfl
@[go_sem] theorem tz287 : tz Tryz.prog 287 = AV.nfn := by kernel_rfl
@[go_sem] theorem dz287 : dz Tryz.prog 287 = AV.nfn := by kernel_rfl
@[go_sem] theorem tk288 : tk Tryz.prog 288 = TK.leaf := by kernel_rfl
@[go_sem] theorem tz288 : tz Tryz.prog 288 = AV.nfn := by kernel_rfl
@[go_sem] theorem dz288 : dz Tryz.prog 288 = AV.nfn := by kernel_rfl
@[go_sem] theorem tk289 : tk Tryz.prog 289 = TK.leaf := by kernel_rfl
@[go_sem] theorem tz289 : tz Tryz.prog 289 = AV.nfn := by kernel_rfl
@[go_sem] theorem dz289 : dz Tryz.prog 289 = AV.nfn := by kernel_rfl
@[go_sem] theorem tk290 : tk Tryz.prog 290 = TK.leaf := by kernel_rfl
@[go_sem] theorem tz290 : tz Tryz.prog 290 = AV.nfn := by kernel_rfl
@[go_sem] theorem dz290 : dz Tryz.prog 290 = AV.nfn := by kernel_rfl
@[go_sem] theorem tk291 : tk Tryz.prog 291 = TK.leaf := by kernel_rfl
@[go_sem] theorem tz291 : tz Tryz.prog 291 = AV.nfn := by kernel_rfl
@[go_sem] theorem dz291 : dz Tryz.prog 291 = AV.nfn := by kernel_rfl
@[go_sem] theorem tk292 : tk Tryz.prog 292 = TK.leaf := by kernel_rfl
@[go_sem] theorem tz292 : tz Tryz.prog 292 = AV.nfn := by kernel_rfl
@[go_sem] theorem dz292 : dz Tryz.prog 292 = AV.nfn := by kernel_rfl
@[go_sem] theorem tk293 : tk Tryz.prog 293 = TK.leaf := by kernel_rfl
@[go_sem] theorem tz293 : tz Tryz.prog 293 = AV.npt := by kernel_rfl
@[go_sem] theorem dz293 : dz Tryz.prog 293 = AV.npt := by kernel_rfl
@[go_sem] theorem pt293 : ptrT Tryz.prog 293 = true := by kernel_rfl
@[go_sem] theorem tk294 : tk Tryz.prog 294 = TK.leaf := by kernel_rfl
@[go_sem] theorem tz294 : tz Tryz.prog 294 = AV.nfn := by kernel_rfl
@[go_sem] theorem dz294 : dz Tryz.prog 294 = AV.nfn := by kernel_rfl
@[go_sem] theorem tk295 : tk Tryz.prog 295 = TK.struct 5 [some (0, 2), some (2, 1), some (3, 1), some (4, 1)] := by kernel_rfl
@[go_sem] theorem tz295 : tz Tryz.prog 295 = AV.agg [AV.int IntKind.i64 0, AV.int IntKind.i64 0, AV.int IntKind.i64 0, AV.bool false, AV.int IntKind.i64 0] := by kernel_rfl
@[go_sem] theorem dz295 : dz Tryz.prog 295 = AV.agg [AV.int IntKind.i64 0, AV.int IntKind.i64 0, AV.int IntKind.i64 0, AV.bool false, AV.int IntKind.i64 0] := by kernel_rfl
@[go_sem] theorem eb295 : eb Tryz.prog 295 = some 40 := by kernel_rfl
@[go_sem] theorem eq295 : eqK Tryz.prog 295 = some [1, 1, 1, 0, 1] := by kernel_rfl
@[go_sem] theorem tk296 : tk Tryz.prog 296 = TK.struct 5 [some (0, 2), some (2, 1), some (3, 1), some (4, 1)] := by kernel_rfl
@[go_sem] theorem tz296 : tz Tryz.prog 296 = AV.agg [AV.int IntKind.i64 0, AV.int IntKind.i64 0, AV.int IntKind.i64 0, AV.bool false, AV.int IntKind.i64 0] := by kernel_rfl
@[go_sem] theorem dz296 : dz Tryz.prog 296 = AV.agg [AV.int IntKind.i64 0, AV.int IntKind.i64 0, AV.int IntKind.i64 0, AV.bool false, AV.int IntKind.i64 0] := by kernel_rfl
@[go_sem] theorem eb296 : eb Tryz.prog 296 = some 40 := by kernel_rfl
@[go_sem] theorem eq296 : eqK Tryz.prog 296 = some [1, 1, 1, 0, 1] := by kernel_rfl
@[go_sem] theorem tk298 : tk Tryz.prog 298 = TK.leaf := by kernel_rfl
@[go_sem] theorem tz298 : tz Tryz.prog 298 = AV.nfn := by kernel_rfl
@[go_sem] theorem dz298 : dz Tryz.prog 298 = AV.nfn := by kernel_rfl
@[go_sem] theorem tk299 : tk Tryz.prog 299 = TK.leaf := by kernel_rfl
@[go_sem] theorem tz299 : tz Tryz.prog 299 = AV.npt := by kernel_rfl
@[go_sem] theorem dz299 : dz Tryz.prog 299 = AV.npt := by kernel_rfl
@[go_sem] theorem pt299 : ptrT Tryz.prog 299 = true := by kernel_rfl
@[go_sem] theorem tk300 : tk Tryz.prog 300 = TK.leaf := by kernel_rfl
@[go_sem] theorem tz300 : tz Tryz.prog 300 = AV.nfn := by kernel_rfl
@[go_sem] theorem dz300 : dz Tryz.prog 300 = AV.nfn := by kernel_rfl
@[go_sem] theorem tk302 : tk Tryz.prog 302 = TK.leaf := by kernel_rfl
@[go_sem] theorem tz302 : tz Tryz.prog 302 = AV.nfn := by kernel_rfl
@[go_sem] theorem dz302 : dz Tryz.prog 302 = AV.nfn := by kernel_rfl
@[go_sem] theorem tk303 : tk Tryz.prog 303 = TK.leaf := by kernel_rfl
@[go_sem] theorem tz303 : tz Tryz.prog 303 = AV.nfn := by kernel_rfl
@[go_sem] theorem dz303 : dz Tryz.prog 303 = AV.nfn := by kernel_rfl
@[go_sem] theorem tk304 : tk Tryz.prog 304 = TK.leaf := by kernel_rfl
@[go_sem] theorem tz304 : tz Tryz.prog 304 = AV.nfn := by kernel_rfl
@[go_sem] theorem dz304 : dz Tryz.prog 304 = AV.nfn := by kernel_rfl
@[go_sem] theorem tk305 : tk Tryz.prog 305 = TK.leaf := by kernel_rfl
@[go_sem] theorem tz305 : tz Tryz.prog 305 = AV.nfn := by kernel_rfl
@[go_sem] theorem dz305 : dz Tryz.prog 305 = AV.nfn := by kernel_rfl
@[go_sem] theorem tk306 : tk Tryz.prog 306 = TK.leaf := by kernel_rfl
@[go_sem] theorem tz306 : tz Tryz.prog 306 = AV.nfn := by kernel_rfl
@[go_sem] theorem dz306 : dz Tryz.prog 306 = AV.nfn := by kernel_rfl
@[go_sem] theorem tk307 : tk Tryz.prog 307 = TK.leaf := by kernel_rfl
@[go_sem] theorem tz307 : tz Tryz.prog 307 = AV.nfn := by kernel_rfl
@[go_sem] theorem dz307 : dz Tryz.prog 307 = AV.nfn := by kernel_rfl
@[go_sem] theorem tk308 : tk Tryz.prog 308 = TK.leaf := by kernel_rfl
@[go_sem] theorem tz308 : tz Tryz.prog 308 = AV.nfn := by kernel_rfl
@[go_sem] theorem dz308 : dz Tryz.prog 308 = AV.nfn := by kernel_rfl
@[go_sem] theorem tk309 : tk Tryz.prog 309 = TK.leaf := by kernel_rfl
@[go_sem] theorem tz309 : tz Tryz.prog 309 = AV.nfn := by kernel_rfl
@[go_sem] theorem dz309 : dz Tryz.prog 309 = AV.nfn := by kernel_rfl
@[go_sem] theorem tk310 : tk Tryz.prog 310 = TK.arr 2 9 1 2 := by kernel_rfl
@[go_sem] theorem tz310 : tz Tryz.prog 310 = AV.agg [AV.str [], AV.str []] := by kernel_rfl
@[go_sem] theorem dz310 : dz Tryz.prog 310 = AV.agg [AV.str [], AV.str []] := by kernel_rfl
@[go_sem] theorem eb310 : eb Tryz.prog 310 = some 32 := by kernel_rfl
@[go_sem] theorem tk311 : tk Tryz.prog 311 = TK.leaf := by kernel_rfl
@[go_sem] theorem mt311 : mapT Tryz.prog 311 = some (none, 310) := by kernel_rfl
@[go_sem] theorem tk314 : tk Tryz.prog 314 = TK.leaf := by kernel_rfl
@[go_sem] theorem tz314 : tz Tryz.prog 314 = AV.nfn := by kernel_rfl
@[go_sem] theorem dz314 : dz Tryz.prog 314 = AV.nfn := by kernel_rfl
@[go_sem] theorem tk315 : tk Tryz.prog 315 = TK.leaf := by kernel_rfl
@[go_sem] theorem tz315 : tz Tryz.prog 315 = AV.nfn := by kernel_rfl
@[go_sem] theorem dz315 : dz Tryz.prog 315 = AV.nfn := by kernel_rfl
@[go_sem] theorem tk317 : tk Tryz.prog 317 = TK.leaf := by kernel_rfl
@[go_sem] theorem tz317 : tz Tryz.prog 317 = AV.nfn := by kernel_rfl
@[go_sem] theorem dz317 : dz Tryz.prog 317 = AV.nfn := by kernel_rfl
@[go_sem] theorem tk319 : tk Tryz.prog 319 = TK.leaf := by kernel_rfl
@[go_sem] theorem tz319 : tz Tryz.prog 319 = AV.nfn := by kernel_rfl
@[go_sem] theorem dz319 : dz Tryz.prog 319 = AV.nfn := by kernel_rfl
@[go_sem] theorem tk320 : tk Tryz.prog 320 = TK.leaf := by kernel_rfl
@[go_sem] theorem tz320 : tz Tryz.prog 320 = AV.nfn := by kernel_rfl
@[go_sem] theorem dz320 : dz Tryz.prog 320 = AV.nfn := by kernel_rfl
@[go_sem] theorem tk322 : tk Tryz.prog 322 = TK.leaf := by kernel_rfl
@[go_sem] theorem tz322 : tz Tryz.prog 322 = AV.nfn := by kernel_rfl
@[go_sem] theorem dz322 : dz Tryz.prog 322 = AV.nfn := by kernel_rfl
@[go_sem] theorem tk323 : tk Tryz.prog 323 = TK.leaf := by kernel_rfl
@[go_sem] theorem tz323 : tz Tryz.prog 323 = AV.nfn := by kernel_rfl
@[go_sem] theorem dz323 : dz Tryz.prog 323 = AV.nfn := by kernel_rfl
@[go_sem] theorem tk324 : tk Tryz.prog 324 = TK.leaf := by kernel_rfl
@[go_sem] theorem tz324 : tz Tryz.prog 324 = AV.nfn := by kernel_rfl
@[go_sem] theorem dz324 : dz Tryz.prog 324 = AV.nfn := by kernel_rfl
@[go_sem] theorem tk325 : tk Tryz.prog 325 = TK.leaf := by kernel_rfl
@[go_sem] theorem tz325 : tz Tryz.prog 325 = AV.nfn := by kernel_rfl
@[go_sem] theorem dz325 : dz Tryz.prog 325 = AV.nfn := by kernel_rfl
@[go_sem] theorem tk326 : tk Tryz.prog 326 = TK.leaf := by kernel_rfl
@[go_sem] theorem tz326 : tz Tryz.prog 326 = AV.nfn := by kernel_rfl
@[go_sem] theorem dz326 : dz Tryz.prog 326 = AV.nfn := by kernel_rfl
@[go_sem] theorem tk327 : tk Tryz.prog 327 = TK.leaf := by kernel_rfl
@[go_sem] theorem tz327 : tz Tryz.prog 327 = AV.nfn := by kernel_rfl
@[go_sem] theorem dz327 : dz Tryz.prog 327 = AV.nfn := by kernel_rfl
@[go_sem] theorem tk328 : tk Tryz.prog 328 = TK.int IntKind.i64 := by kernel_rfl
@[go_sem] theorem tz328 : tz Tryz.prog 328 = AV.int IntKind.i64 0 := by kernel_rfl
@[go_sem] theorem dz328 : dz Tryz.prog 328 = AV.int IntKind.i64 0 := by kernel_rfl
@[go_sem] theorem eb328 : eb Tryz.prog 328 = some 8 := by kernel_rfl
@[go_sem] theorem eq328 : eqK Tryz.prog 328 = some [1] := by kernel_rfl
@[go_sem] theorem tk330 : tk Tryz.prog 330 = TK.leaf := by kernel_rfl
@[go_sem] theorem tz330 : tz Tryz.prog 330 = AV.nfn := by kernel_rfl
@[go_sem] theorem dz330 : dz Tryz.prog 330 = AV.nfn := by kernel_rfl
@[go_sem] theorem tk331 : tk Tryz.prog 331 = TK.leaf := by kernel_rfl
@[go_sem] theorem tz331 : tz Tryz.prog 331 = AV.nfn := by kernel_rfl
@[go_sem] theorem dz331 : dz Tryz.prog 331 = AV.nfn := by kernel_rfl
@[go_sem] theorem tk332 : tk Tryz.prog 332 = TK.leaf := by kernel_rfl
@[go_sem] theorem tz332 : tz Tryz.prog 332 = AV.nfn := by kernel_rfl
@[go_sem] theorem dz332 : dz Tryz.prog 332 = AV.nfn := by kernel_rfl
@[go_sem] theorem tk333 : tk Tryz.prog 333 = TK.leaf := by kernel_rfl
@[go_sem] theorem tz333 : tz Tryz.prog 333 = AV.nfn := by kernel_rfl
@[go_sem] theorem dz333 : dz Tryz.prog 333 = AV.nfn := by kernel_rfl
@[go_sem] theorem tk334 : tk Tryz.prog 334 = TK.leaf := by kernel_rfl
@[go_sem] theorem tz334 : tz Tryz.prog 334 = AV.nfn := by kernel_rfl
@[go_sem] theorem dz334 : dz Tryz.prog 334 = AV.nfn := by kernel_rfl
@[go_sem] theorem tk335 : tk Tryz.prog 335 = TK.leaf := by kernel_rfl
@[go_sem] theorem tz335 : tz Tryz.prog 335 = AV.nfn := by kernel_rfl
@[go_sem] theorem dz335 : dz Tryz.prog 335 = AV.nfn := by kernel_rfl
@[go_sem] theorem tk336 : tk Tryz.prog 336 = TK.leaf := by kernel_rfl
@[go_sem] theorem tz336 : tz Tryz.prog 336 = AV.nfn := by kernel_rfl
@[go_sem] theorem dz336 : dz Tryz.prog 336 = AV.nfn := by kernel_rfl
@[go_sem] theorem tk337 : tk Tryz.prog 337 = TK.int IntKind.u64 := by kernel_rfl
@[go_sem] theorem tz337 : tz Tryz.prog 337 = AV.int IntKind.u64 0 := by kernel_rfl
@[go_sem] theorem dz337 : dz Tryz.prog 337 = AV.int IntKind.u64 0 := by kernel_rfl
@[go_sem] theorem eb337 : eb Tryz.prog 337 = some 8 := by kernel_rfl
@[go_sem] theorem eq337 : eqK Tryz.prog 337 = some [1] := by kernel_rfl
@[go_sem] theorem tk338 : tk Tryz.prog 338 = TK.leaf := by kernel_rfl
@[go_sem] theorem tz338 : tz Tryz.prog 338 = AV.nfn := by kernel_rfl
@[go_sem] theorem dz338 : dz Tryz.prog 338 = AV.nfn := by kernel_rfl
@[go_sem] theorem tk339 : tk Tryz.prog 339 = TK.leaf := by kernel_rfl
@[go_sem] theorem tz339 : tz Tryz.prog 339 = AV.nfn := by kernel_rfl
@[go_sem] theorem dz339 : dz Tryz.prog 339 = AV.nfn := by kernel_rfl
@[go_sem] theorem tk340 : tk Tryz.prog 340 = TK.leaf := by kernel_rfl
@[go_sem] theorem tz340 : tz Tryz.prog 340 = AV.nfn := by kernel_rfl
@[go_sem] theorem dz340 : dz Tryz.prog 340 = AV.nfn := by kernel_rfl
@[go_sem] theorem tk341 : tk Tryz.prog 341 = TK.leaf := by kernel_rfl
@[go_sem] theorem tz341 : tz Tryz.prog 341 = AV.nfn := by kernel_rfl
@[go_sem] theorem dz341 : dz Tryz.prog 341 = AV.nfn := by kernel_rfl
@[go_sem] theorem tk343 : tk Tryz.prog 343 = TK.leaf := by kernel_rfl
@[go_sem] theorem tz343 : tz Tryz.prog 343 = AV.nfn := by kernel_rfl
@[go_sem] theorem dz343 : dz Tryz.prog 343 = AV.nfn := by kernel_rfl
@[go_sem] theorem tk344 : tk Tryz.prog 344 = TK.leaf := by kernel_rfl
@[go_sem] theorem tz344 : tz Tryz.prog 344 = AV.nfn := by kernel_rfl
@[go_sem] theorem dz344 : dz Tryz.prog 344 = AV.nfn := by kernel_rfl
@[go_sem] theorem tk345 : tk Tryz.prog 345 = TK.leaf := by kernel_rfl
@[go_sem] theorem tz345 : tz Tryz.prog 345 = AV.nfn := by kernel_rfl
@[go_sem] theorem dz345 : dz Tryz.prog 345 = AV.nfn := by kernel_rfl
@[go_sem] theorem tk346 : tk Tryz.prog 346 = TK.leaf := by kernel_rfl
@[go_sem] theorem tz346 : tz Tryz.prog 346 = AV.nfn := by kernel_rfl
@[go_sem] theorem dz346 : dz Tryz.prog 346 = AV.nfn := by kernel_rfl
@[go_sem] theorem tk347 : tk Tryz.prog 347 = TK.leaf := by kernel_rfl
@[go_sem] theorem tz347 : tz Tryz.prog 347 = AV.nfn := by kernel_rfl
@[go_sem] theorem dz347 : dz Tryz.prog 347 = AV.nfn := by kernel_rfl
@[go_sem] theorem tk348 : tk Tryz.prog 348 = TK.leaf := by kernel_rfl
@[go_sem] theorem tz348 : tz Tryz.prog 348 = AV.nfn := by kernel_rfl
@[go_sem] theorem dz348 : dz Tryz.prog 348 = AV.nfn := by kernel_rfl
@[go_sem] theorem tk349 : tk Tryz.prog 349 = TK.leaf := by kernel_rfl
@[go_sem] theorem tz349 : tz Tryz.prog 349 = AV.nfn := by kernel_rfl
@[go_sem] theorem dz349 : dz Tryz.prog 349 = AV.nfn := by kernel_rfl
@[go_sem] theorem tk350 : tk Tryz.prog 350 = TK.struct 10 [some (0, 1), some (1, 1), some (2, 6), some (8, 1), some (9, 1)] := by kernel_rfl
@[go_sem] theorem tz350 : tz Tryz.prog 350 = AV.agg [AV.nls, AV.npt, AV.int IntKind.u8 0, AV.int IntKind.i64 0, AV.str [], AV.str [], AV.int IntKind.u8 0, AV.str [], AV.int IntKind.i64 0, AV.bool false] := by kernel_rfl
@[go_sem] theorem dz350 : dz Tryz.prog 350 = AV.agg [AV.sl 1 [], AV.npt, AV.int IntKind.u8 0, AV.int IntKind.i64 0, AV.str [], AV.str [], AV.int IntKind.u8 0, AV.str [], AV.int IntKind.i64 0, AV.bool false] := by kernel_rfl
@[go_sem] theorem eb350 : eb Tryz.prog 350 = some 120 := by kernel_rfl
@[go_sem] theorem tk351 : tk Tryz.prog 351 = TK.struct 10 [some (0, 1), some (1, 1), some (2, 6), some (8, 1), some (9, 1)] := by kernel_rfl
@[go_sem] theorem tz351 : tz Tryz.prog 351 = AV.agg [AV.nls, AV.npt, AV.int IntKind.u8 0, AV.int IntKind.i64 0, AV.str [], AV.str [], AV.int IntKind.u8 0, AV.str [], AV.int IntKind.i64 0, AV.bool false] := by kernel_rfl
@[go_sem] theorem dz351 : dz Tryz.prog 351 = AV.agg [AV.sl 1 [], AV.npt, AV.int IntKind.u8 0, AV.int IntKind.i64 0, AV.str [], AV.str [], AV.int IntKind.u8 0, AV.str [], AV.int IntKind.i64 0, AV.bool false] := by kernel_rfl
@[go_sem] theorem eb351 : eb Tryz.prog 351 = some 120 := by kernel_rfl
@[go_sem] theorem tk352 : tk Tryz.prog 352 = TK.leaf := by kernel_rfl
@[go_sem] theorem tz352 : tz Tryz.prog 352 = AV.nfn := by kernel_rfl
@[go_sem] theorem dz352 : dz Tryz.prog 352 = AV.nfn := by kernel_rfl
@[go_sem] theorem tk353 : tk Tryz.prog 353 = TK.leaf := by kernel_rfl
@[go_sem] theorem tz353 : tz Tryz.prog 353 = AV.nfn := by kernel_rfl
@[go_sem] theorem dz353 : dz Tryz.prog 353 = AV.nfn := by kernel_rfl
@[go_sem] theorem tk354 : tk Tryz.prog 354 = TK.leaf := by kernel_rfl
@[go_sem] theorem tz354 : tz Tryz.prog 354 = AV.nfn := by kernel_rfl
@[go_sem] theorem dz354 : dz Tryz.prog 354 = AV.nfn := by kernel_rfl
@[go_sem] theorem tk355 : tk Tryz.prog 355 = TK.leaf := by kernel_rfl
@[go_sem] theorem tz355 : tz Tryz.prog 355 = AV.nfn := by kernel_rfl
@[go_sem] theorem dz355 : dz Tryz.prog 355 = AV.nfn := by kernel_rfl
@[go_sem] theorem tk356 : tk Tryz.prog 356 = TK.leaf := by kernel_rfl
@[go_sem] theorem tz356 : tz Tryz.prog 356 = AV.nfn := by kernel_rfl
@[go_sem] theorem dz356 : dz Tryz.prog 356 = AV.nfn := by kernel_rfl
@[go_sem] theorem tk357 : tk Tryz.prog 357 = TK.leaf := by kernel_rfl
@[go_sem] theorem tz357 : tz Tryz.prog 357 = AV.nfn := by kernel_rfl
@[go_sem] theorem dz357 : dz Tryz.prog 357 = AV.nfn := by kernel_rfl
@[go_sem] theorem tk358 : tk Tryz.prog 358 = TK.leaf := by kernel_rfl
@[go_sem] theorem tz358 : tz Tryz.prog 358 = AV.nfn := by kernel_rfl
@[go_sem] theorem dz358 : dz Tryz.prog 358 = AV.nfn := by kernel_rfl
@[go_sem] theorem tk359 : tk Tryz.prog 359 = TK.leaf := by kernel_rfl
@[go_sem] theorem tz359 : tz Tryz.prog 359 = AV.nfn := by kernel_rfl
@[go_sem] theorem dz359 : dz Tryz.prog 359 = AV.nfn := by kernel_rfl
@[go_sem] theorem tk360 : tk Tryz.prog 360 = TK.leaf := by kernel_rfl
@[go_sem] theorem tz360 : tz Tryz.prog 360 = AV.nfn := by kernel_rfl
@[go_sem] theorem dz360 : dz Tryz.prog 360 = AV.nfn := by kernel_rfl
@[go_sem] theorem tk361 : tk Tryz.prog 361 = TK.leaf := by kernel_rfl
@[go_sem] theorem tz361 : tz Tryz.prog 361 = AV.nfn := by kernel_rfl
@[go_sem] theorem dz361 : dz Tryz.prog 361 = AV.nfn := by kernel_rfl
@[go_sem] theorem tk362 : tk Tryz.prog 362 = TK.leaf := by kernel_rfl
@[go_sem] theorem tz362 : tz Tryz.prog 362 = AV.nfn := by kernel_rfl
@[go_sem] theorem dz362 : dz Tryz.prog 362 = AV.nfn := by kernel_rfl
@[go_sem] theorem tk363 : tk Tryz.prog 363 = TK.leaf := by kernel_rfl
@[go_sem] theorem tz363 : tz Tryz.prog 363 = AV.nfn := by kernel_rfl
@[go_sem] theorem dz363 : dz Tryz.prog 363 = AV.nfn := by kernel_rfl
@[go_sem] theorem tk364 : tk Tryz.prog 364 = TK.leaf := by kernel_rfl
@[go_sem] theorem tz364 : tz Tryz.prog 364 = AV.nfn := by kernel_rfl
@[go_sem] theorem dz364 : dz Tryz.prog 364 = AV.nfn := by kernel_rfl
@[go_sem] theorem tk365 : tk Tryz.prog 365 = TK.leaf := by kernel_rfl
@[go_sem] theorem tz365 : tz Tryz.prog 365 = AV.nfn := by kernel_rfl
@[go_sem] theorem dz365 : dz Tryz.prog 365 = AV.nfn := by kernel_rfl
@[go_sem] theorem tk366 : tk Tryz.prog 366 = TK.leaf := by kernel_rfl
@[go_sem] theorem tz366 : tz Tryz.prog 366 = AV.nfn := by kernel_rfl
@[go_sem] theorem dz366 : dz Tryz.prog 366 = AV.nfn := by kernel_rfl
@[go_sem] theorem tk367 : tk Tryz.prog 367 = TK.leaf := by kernel_rfl
@[go_sem] theorem tz367 : tz Tryz.prog 367 = AV.nfn := by kernel_rfl
@[go_sem] theorem dz367 : dz Tryz.prog 367 = AV.nfn := by kernel_rfl
@[go_sem] theorem tk368 : tk Tryz.prog 368 = TK.leaf := by kernel_rfl
@[go_sem] theorem tz368 : tz Tryz.prog 368 = AV.nfn := by kernel_rfl
@[go_sem] theorem dz368 : dz Tryz.prog 368 = AV.nfn := by kernel_rfl
@[go_sem] theorem tk369 : tk Tryz.prog 369 = TK.leaf := by kernel_rfl
@[go_sem] theorem tz369 : tz Tryz.prog 369 = AV.nfn := by kernel_rfl
@[go_sem] theorem dz369 : dz Tryz.prog 369 = AV.nfn := by kernel_rfl
@[go_sem] theorem tk371 : tk Tryz.prog 371 = TK.leaf := by kernel_rfl
@[go_sem] theorem tz371 : tz Tryz.prog 371 = AV.nfn := by kernel_rfl
@[go_sem] theorem dz371 : dz Tryz.prog 371 = AV.nfn := by kernel_rfl
@[go_sem] theorem tk372 : tk Tryz.prog 372 = TK.leaf := by kernel_rfl
@[go_sem] theorem tz372 : tz Tryz.prog 372 = AV.nfn := by kernel_rfl
@[go_sem] theorem dz372 : dz Tryz.prog 372 = AV.nfn := by kernel_rfl
@[go_sem] theorem tk373 : tk Tryz.prog 373 = TK.leaf := by kernel_rfl
@[go_sem] theorem tz373 : tz Tryz.prog 373 = AV.nfn := by kernel_rfl
@[go_sem] theorem dz373 : dz Tryz.prog 373 = AV.nfn := by kernel_rfl
@[go_sem] theorem tk374 : tk Tryz.prog 374 = TK.leaf := by kernel_rfl
@[go_sem] theorem tz374 : tz Tryz.prog 374 = AV.nfn := by kernel_rfl
@[go_sem] theorem dz374 : dz Tryz.prog 374 = AV.nfn := by kernel_rfl
@[go_sem] theorem tk375 : tk Tryz.prog 375 = TK.leaf := by kernel_rfl
@[go_sem] theorem tz375 : tz Tryz.prog 375 = AV.nfn := by kernel_rfl
@[go_sem] theorem dz375 : dz Tryz.prog 375 = AV.nfn := by kernel_rfl
@[go_sem] theorem tk376 : tk Tryz.prog 376 = TK.leaf := by kernel_rfl
@[go_sem] theorem tz376 : tz Tryz.prog 376 = AV.nfn := by kernel_rfl
@[go_sem] theorem dz376 : dz Tryz.prog 376 = AV.nfn := by kernel_rfl
@[go_sem] theorem tk377 : tk Tryz.prog 377 = TK.leaf := by kernel_rfl
@[go_sem] theorem tz377 : tz Tryz.prog 377 = AV.nfn := by kernel_rfl
@[go_sem] theorem dz377 : dz Tryz.prog 377 = AV.nfn := by kernel_rfl
@[go_sem] theorem tk378 : tk Tryz.prog 378 = TK.int IntKind.u64 := by kernel_rfl
@[go_sem] theorem tz378 : tz Tryz.prog 378 = AV.int IntKind.u64 0 := by kernel_rfl
@[go_sem] theorem dz378 : dz Tryz.prog 378 = AV.int IntKind.u64 0 := by kernel_rfl
@[go_sem] theorem eb378 : eb Tryz.prog 378 = some 8 := by kernel_rfl
@[go_sem] theorem eq378 : eqK Tryz.prog 378 = some [1] := by kernel_rfl
@[go_sem] theorem tk379 : tk Tryz.prog 379 = TK.leaf := by kernel_rfl
@[go_sem] theorem tz379 : tz Tryz.prog 379 = AV.nfn := by kernel_rfl
@[go_sem] theorem dz379 : dz Tryz.prog 379 = AV.nfn := by kernel_rfl
@[go_sem] theorem tk380 : tk Tryz.prog 380 = TK.leaf := by kernel_rfl
@[go_sem] theorem tz380 : tz Tryz.prog 380 = AV.nfn := by kernel_rfl
@[go_sem] theorem dz380 : dz Tryz.prog 380 = AV.nfn := by kernel_rfl
@[go_sem] theorem tk381 : tk Tryz.prog 381 = TK.leaf := by kernel_rfl
@[go_sem] theorem tz381 : tz Tryz.prog 381 = AV.nfn := by kernel_rfl
@[go_sem] theorem dz381 : dz Tryz.prog 381 = AV.nfn := by kernel_rfl
@[go_sem] theorem tk382 : tk Tryz.prog 382 = TK.leaf := by kernel_rfl
@[go_sem] theorem tz382 : tz Tryz.prog 382 = AV.npt := by kernel_rfl
@[go_sem] theorem dz382 : dz Tryz.prog 382 = AV.npt := by kernel_rfl
@[go_sem] theorem pt382 : ptrT Tryz.prog 382 = true := by kernel_rfl
@[go_sem] theorem tk383 : tk Tryz.prog 383 = TK.leaf := by kernel_rfl
@[go_sem] theorem tz383 : tz Tryz.prog 383 = AV.nfn := by kernel_rfl
@[go_sem] theorem dz383 : dz Tryz.prog 383 = AV.nfn := by kernel_rfl
@[go_sem] theorem tk384 : tk Tryz.prog 384 = TK.leaf := by kernel_rfl
@[go_sem] theorem tz384 : tz Tryz.prog 384 = AV.nfn := by kernel_rfl
@[go_sem] theorem dz384 : dz Tryz.prog 384 = AV.nfn := by kernel_rfl
@[go_sem] theorem tk385 : tk Tryz.prog 385 = TK.slice 22 1 := by kernel_rfl
@[go_sem] theorem tz385 : tz Tryz.prog 385 = AV.nls := by kernel_rfl
@[go_sem] theorem dz385 : dz Tryz.prog 385 = AV.sl 1 [] := by kernel_rfl
@[go_sem] theorem eb385 : eb Tryz.prog 385 = some 24 := by kernel_rfl
@[go_sem] theorem tk386 : tk Tryz.prog 386 = TK.leaf := by kernel_rfl
@[go_sem] theorem tz386 : tz Tryz.prog 386 = AV.nfn := by kernel_rfl
@[go_sem] theorem dz386 : dz Tryz.prog 386 = AV.nfn := by kernel_rfl
@[go_sem] theorem tk387 : tk Tryz.prog 387 = TK.leaf := by kernel_rfl
@[go_sem] theorem tz387 : tz Tryz.prog 387 = AV.nfn := by kernel_rfl
@[go_sem] theorem dz387 : dz Tryz.prog 387 = AV.nfn := by kernel_rfl
@[go_sem] theorem tk389 : tk Tryz.prog 389 = TK.leaf := by kernel_rfl
@[go_sem] theorem tz389 : tz Tryz.prog 389 = AV.nfn := by kernel_rfl
@[go_sem] theorem dz389 : dz Tryz.prog 389 = AV.nfn := by kernel_rfl
@[go_sem] theorem tk390 : tk Tryz.prog 390 = TK.leaf := by kernel_rfl
@[go_sem] theorem tz390 : tz Tryz.prog 390 = AV.nfn := by kernel_rfl
@[go_sem] theorem dz390 : dz Tryz.prog 390 = AV.nfn := by kernel_rfl
@[go_sem] theorem tk391 : tk Tryz.prog 391 = TK.leaf := by kernel_rfl
@[go_sem] theorem tz391 : tz Tryz.prog 391 = AV.nfn := by kernel_rfl
@[go_sem] theorem dz391 : dz Tryz.prog 391 = AV.nfn := by kernel_rfl
@[go_sem] theorem tk392 : tk Tryz.prog 392 = TK.leaf := by kernel_rfl
@[go_sem] theorem tz392 : tz Tryz.prog 392 = AV.nfn := by kernel_rfl
@[go_sem] theorem dz392 : dz Tryz.prog 392 = AV.nfn := by kernel_rfl
@[go_sem] theorem tk393 : tk Tryz.prog 393 = TK.leaf := by kernel_rfl
@[go_sem] theorem tz393 : tz Tryz.prog 393 = AV.nfn := by kernel_rfl
@[go_sem] theorem dz393 : dz Tryz.prog 393 = AV.nfn := by kernel_rfl
@[go_sem] theorem tk394 : tk Tryz.prog 394 = TK.leaf := by kernel_rfl
@[go_sem] theorem tz394 : tz Tryz.prog 394 = AV.nfn := by kernel_rfl
@[go_sem] theorem dz394 : dz Tryz.prog 394 = AV.nfn := by kernel_rfl
@[go_sem] theorem tk395 : tk Tryz.prog 395 = TK.leaf := by kernel_rfl
@[go_sem] theorem tz395 : tz Tryz.prog 395 = AV.nfn := by kernel_rfl
@[go_sem] theorem dz395 : dz Tryz.prog 395 = AV.nfn := by kernel_rfl
@[go_sem] theorem tk396 : tk Tryz.prog 396 = TK.leaf := by kernel_rfl
@[go_sem] theorem tz396 : tz Tryz.prog 396 = AV.nfn := by kernel_rfl
@[go_sem] theorem dz396 : dz Tryz.prog 396 = AV.nfn := by kernel_rfl
@[go_sem] theorem tk397 : tk Tryz.prog 397 = TK.leaf := by kernel_rfl
@[go_sem] theorem tz397 : tz Tryz.prog 397 = AV.nfn := by kernel_rfl
@[go_sem] theorem dz397 : dz Tryz.prog 397 = AV.nfn := by kernel_rfl
@[go_sem] theorem tk398 : tk Tryz.prog 398 = TK.leaf := by kernel_rfl
@[go_sem] theorem tz398 : tz Tryz.prog 398 = AV.nfn := by kernel_rfl
@[go_sem] theorem dz398 : dz Tryz.prog 398 = AV.nfn := by kernel_rfl
@[go_sem] theorem tk399 : tk Tryz.prog 399 = TK.leaf := by kernel_rfl
@[go_sem] theorem tz399 : tz Tryz.prog 399 = AV.nfn := by kernel_rfl
@[go_sem] theorem dz399 : dz Tryz.prog 399 = AV.nfn := by kernel_rfl
@[go_sem] theorem tk400 : tk Tryz.prog 400 = TK.leaf := by kernel_rfl
@[go_sem] theorem tz400 : tz Tryz.prog 400 = AV.nfn := by kernel_rfl
@[go_sem] theorem dz400 : dz Tryz.prog 400 = AV.nfn := by kernel_rfl
@[go_sem] theorem tk401 : tk Tryz.prog 401 = TK.leaf := by kernel_rfl
@[go_sem] theorem tz401 : tz Tryz.prog 401 = AV.nfn := by kernel_rfl
@[go_sem] theorem dz401 : dz Tryz.prog 401 = AV.nfn := by kernel_rfl
@[go_sem] theorem tk402 : tk Tryz.prog 402 = TK.leaf := by kernel_rfl
@[go_sem] theorem tz402 : tz Tryz.prog 402 = AV.nfn := by kernel_rfl
@[go_sem] theorem dz402 : dz Tryz.prog 402 = AV.nfn := by kernel_rfl
@[go_sem] theorem tk403 : tk Tryz.prog 403 = TK.leaf := by kernel_rfl
@[go_sem] theorem tz403 : tz Tryz.prog 403 = AV.nfn := by kernel_rfl
@[go_sem] theorem dz403 : dz Tryz.prog 403 = AV.nfn := by kernel_rfl
@[go_sem] theorem tk404 : tk Tryz.prog 404 = TK.leaf := by kernel_rfl
@[go_sem] theorem tz404 : tz Tryz.prog 404 = AV.nfn := by kernel_rfl
@[go_sem] theorem dz404 : dz Tryz.prog 404 = AV.nfn := by kernel_rfl
@[go_sem] theorem tk405 : tk Tryz.prog 405 = TK.leaf := by kernel_rfl
@[go_sem] theorem tz405 : tz Tryz.prog 405 = AV.nfn := by kernel_rfl
@[go_sem] theorem dz405 : dz Tryz.prog 405 = AV.nfn := by kernel_rfl
@[go_sem] theorem tk406 : tk Tryz.prog 406 = TK.leaf := by kernel_rfl
@[go_sem] theorem tz406 : tz Tryz.prog 406 = AV.nfn := by kernel_rfl
@[go_sem] theorem dz406 : dz Tryz.prog 406 = AV.nfn := by kernel_rfl
@[go_sem] theorem tk407 : tk Tryz.prog 407 = TK.leaf := by kernel_rfl
@[go_sem] theorem tz407 : tz Tryz.prog 407 = AV.nfn := by kernel_rfl
@[go_sem] theorem dz407 : dz Tryz.prog 407 = AV.nfn := by kernel_rfl
@[go_sem] theorem tk408 : tk Tryz.prog 408 = TK.leaf := by kernel_rfl
@[go_sem] theorem tz408 : tz Tryz.prog 408 = AV.nfn := by kernel_rfl
@[go_sem] theorem dz408 : dz Tryz.prog 408 = AV.nfn := by kernel_rfl
@[go_sem] theorem tk409 : tk Tryz.prog 409 = TK.leaf := by kernel_rfl
@[go_sem] theorem tz409 : tz Tryz.prog 409 = AV.nfn := by kernel_rfl
@[go_sem] theorem dz409 : dz Tryz.prog 409 = AV.nfn := by kernel_rfl
@[go_sem] theorem tk410 : tk Tryz.prog 410 = TK.leaf := by kernel_rfl
@[go_sem] theorem tz410 : tz Tryz.prog 410 = AV.nfn := by kernel_rfl
@[go_sem] theorem dz410 : dz Tryz.prog 410 = AV.nfn := by kernel_rfl
@[go_sem] theorem tk411 : tk Tryz.prog 411 = TK.leaf := by kernel_rfl
@[go_sem] theorem tz411 : tz Tryz.prog 411 = AV.nfn := by kernel_rfl
@[go_sem] theorem dz411 : dz Tryz.prog 411 = AV.nfn := by kernel_rfl
@[go_sem] theorem tk412 : tk Tryz.prog 412 = TK.leaf := by kernel_rfl
@[go_sem] theorem tz412 : tz Tryz.prog 412 = AV.nfn := by kernel_rfl
@[go_sem] theorem dz412 : dz Tryz.prog 412 = AV.nfn := by kernel_rfl
@[go_sem] theorem tk413 : tk Tryz.prog 413 = TK.leaf := by kernel_rfl
@[go_sem] theorem tz413 : tz Tryz.prog 413 = AV.nfn := by kernel_rfl
@[go_sem] theorem dz413 : dz Tryz.prog 413 = AV.nfn := by kernel_rfl
@[go_sem] theorem tk414 : tk Tryz.prog 414 = TK.leaf := by kernel_rfl
@[go_sem] theorem tz414 : tz Tryz.prog 414 = AV.nfn := by kernel_rfl
@[go_sem] theorem dz414 : dz Tryz.prog 414 = AV.nfn := by kernel_rfl
@[go_sem] theorem tk418 : tk Tryz.prog 418 = TK.leaf := by kernel_rfl
@[go_sem] theorem tz418 : tz Tryz.prog 418 = AV.nfn := by kernel_rfl
@[go_sem] theorem dz418 : dz Tryz.prog 418 = AV.nfn := by kernel_rfl
@[go_sem] theorem tk419 : tk Tryz.prog 419 = TK.leaf := by kernel_rfl
@[go_sem] theorem tz419 : tz Tryz.prog 419 = AV.nfn := by kernel_rfl
@[go_sem] theorem dz419 : dz Tryz.prog 419 = AV.nfn := by kernel_rfl
@[go_sem] theorem tk420 : tk Tryz.prog 420 = TK.leaf := by kernel_rfl
@[go_sem] theorem tz420 : tz Tryz.prog 420 = AV.npt := by kernel_rfl
@[go_sem] theorem dz420 : dz Tryz.prog 420 = AV.npt := by kernel_rfl
@[go_sem] theorem pt420 : ptrT Tryz.prog 420 = true := by kernel_rfl
@[go_sem] theorem tk421 : tk Tryz.prog 421 = TK.leaf := by kernel_rfl
@[go_sem] theorem tz421 : tz Tryz.prog 421 = AV.nfn := by kernel_rfl
@[go_sem] theorem dz421 : dz Tryz.prog 421 = AV.nfn := by kernel_rfl
@[go_sem] theorem tk422 : tk Tryz.prog 422 = TK.leaf := by kernel_rfl
@[go_sem] theorem tz422 : tz Tryz.prog 422 = AV.nfn := by kernel_rfl
@[go_sem] theorem dz422 : dz Tryz.prog 422 = AV.nfn := by kernel_rfl
@[go_sem] theorem tk423 : tk Tryz.prog 423 = TK.leaf := by kernel_rfl
@[go_sem] theorem tz423 : tz Tryz.prog 423 = AV.nfn := by kernel_rfl
@[go_sem] theorem dz423 : dz Tryz.prog 423 = AV.nfn := by kernel_rfl
@[go_sem] theorem tk424 : tk Tryz.prog 424 = TK.leaf := by kernel_rfl
@[go_sem] theorem tz424 : tz Tryz.prog 424 = AV.npt := by kernel_rfl
@[go_sem] theorem dz424 : dz Tryz.prog 424 = AV.npt := by kernel_rfl
@[go_sem] theorem pt424 : ptrT Tryz.prog 424 = true := by kernel_rfl
@[go_sem] theorem tk425 : tk Tryz.prog 425 = TK.leaf := by kernel_rfl
@[go_sem] theorem tz425 : tz Tryz.prog 425 = AV.nfn := by kernel_rfl
@[go_sem] theorem dz425 : dz Tryz.prog 425 = AV.nfn := by kernel_rfl
@[go_sem] theorem tk426 : tk Tryz.prog 426 = TK.leaf := by kernel_rfl
@[go_sem] theorem tz426 : tz Tryz.prog 426 = AV.nfn := by kernel_rfl
@[go_sem] theorem dz426 : dz Tryz.prog 426 = AV.nfn := by kernel_rfl
@[go_sem] theorem tk427 : tk Tryz.prog 427 = TK.leaf := by kernel_rfl
@[go_sem] theorem tz427 : tz Tryz.prog 427 = AV.nfn := by kernel_rfl
@[go_sem] theorem dz427 : dz Tryz.prog 427 = AV.nfn := by kernel_rfl
@[go_sem] theorem tk428 : tk Tryz.prog 428 = TK.leaf := by kernel_rfl
@[go_sem] theorem tz428 : tz Tryz.prog 428 = AV.nfn := by kernel_rfl
@[go_sem] theorem dz428 : dz Tryz.prog 428 = AV.nfn := by kernel_rfl
@[go_sem] theorem tk429 : tk Tryz.prog 429 = TK.leaf := by kernel_rfl
@[go_sem] theorem tz429 : tz Tryz.prog 429 = AV.nfn := by kernel_rfl
@[go_sem] theorem dz429 : dz Tryz.prog 429 = AV.nfn := by kernel_rfl
@[go_sem] theorem tk430 : tk Tryz.prog 430 = TK.slice 435 3 := by kernel_rfl
@[go_sem] theorem tz430 : tz Tryz.prog 430 = AV.nls := by kernel_rfl
@[go_sem] theorem dz430 : dz Tryz.prog 430 = AV.sl 3 [] := by kernel_rfl
@[go_sem] theorem eb430 : eb Tryz.prog 430 = some 24 := by kernel_rfl
@[go_sem] theorem tk432 : tk Tryz.prog 432 = TK.leaf := by kernel_rfl
@[go_sem] theorem tz432 : tz Tryz.prog 432 = AV.nfn := by kernel_rfl
@[go_sem] theorem dz432 : dz Tryz.prog 432 = AV.nfn := by kernel_rfl
@[go_sem] theorem tk433 : tk Tryz.prog 433 = TK.leaf := by kernel_rfl
@[go_sem] theorem tz433 : tz Tryz.prog 433 = AV.nfn := by kernel_rfl
@[go_sem] theorem dz433 : dz Tryz.prog 433 = AV.nfn := by kernel_rfl
@[go_sem] theorem tk434 : tk Tryz.prog 434 = TK.struct 3 [some (0, 1), some (1, 1), some (2, 1)] := by kernel_rfl
@[go_sem] theorem tz434 : tz Tryz.prog 434 = AV.agg [AV.int IntKind.i64 0, AV.int IntKind.i64 0, AV.bool false] := by kernel_rfl
@[go_sem] theorem dz434 : dz Tryz.prog 434 = AV.agg [AV.int IntKind.i64 0, AV.int IntKind.i64 0, AV.bool false] := by kernel_rfl
@[go_sem] theorem eb434 : eb Tryz.prog 434 = some 24 := by kernel_rfl
@[go_sem] theorem eq434 : eqK Tryz.prog 434 = some [1, 1, 0] := by kernel_rfl
@[go_sem] theorem tk435 : tk Tryz.prog 435 = TK.struct 3 [some (0, 1), some (1, 1), some (2, 1)] := by kernel_rfl
@[go_sem] theorem tz435 : tz Tryz.prog 435 = AV.agg [AV.int IntKind.i64 0, AV.int IntKind.i64 0, AV.bool false] := by kernel_rfl
@[go_sem] theorem dz435 : dz Tryz.prog 435 = AV.agg [AV.int IntKind.i64 0, AV.int IntKind.i64 0, AV.bool false] := by kernel_rfl
@[go_sem] theorem eb435 : eb Tryz.prog 435 = some 24 := by kernel_rfl
@[go_sem] theorem eq435 : eqK Tryz.prog 435 = some [1, 1, 0] := by kernel_rfl
@[go_sem] theorem tk437 : tk Tryz.prog 437 = TK.leaf := by kernel_rfl
@[go_sem] theorem tz437 : tz Tryz.prog 437 = AV.nfn := by kernel_rfl
@[go_sem] theorem dz437 : dz Tryz.prog 437 = AV.nfn := by kernel_rfl
@[go_sem] theorem tk439 : tk Tryz.prog 439 = TK.leaf := by kernel_rfl
@[go_sem] theorem tz439 : tz Tryz.prog 439 = AV.nfn := by kernel_rfl
@[go_sem] theorem dz439 : dz Tryz.prog 439 = AV.nfn := by kernel_rfl
@[go_sem] theorem tk441 : tk Tryz.prog 441 = TK.leaf := by kernel_rfl
@[go_sem] theorem tz441 : tz Tryz.prog 441 = AV.nfn := by kernel_rfl
@[go_sem] theorem dz441 : dz Tryz.prog 441 = AV.nfn := by kernel_rfl
@[go_sem] theorem tk442 : tk Tryz.prog 442 = TK.leaf := by kernel_rfl
@[go_sem] theorem tz442 : tz Tryz.prog 442 = AV.nfn := by kernel_rfl
@[go_sem] theorem dz442 : dz Tryz.prog 442 = AV.nfn := by kernel_rfl
@[go_sem] theorem tk443 : tk Tryz.prog 443 = TK.leaf := by kernel_rfl
@[go_sem] theorem tz443 : tz Tryz.prog 443 = AV.nfn := by kernel_rfl
@[go_sem] theorem dz443 : dz Tryz.prog 443 = AV.nfn := by kernel_rfl
@[go_sem] theorem tk444 : tk Tryz.prog 444 = TK.leaf := by kernel_rfl
@[go_sem] theorem tz444 : tz Tryz.prog 444 = AV.nfn := by kernel_rfl
@[go_sem] theorem dz444 : dz Tryz.prog 444 = AV.nfn := by kernel_rfl
@[go_sem] theorem tk445 : tk Tryz.prog 445 = TK.leaf := by kernel_rfl
@[go_sem] theorem tz445 : tz Tryz.prog 445 = AV.nfn := by kernel_rfl
@[go_sem] theorem dz445 : dz Tryz.prog 445 = AV.nfn := by kernel_rfl
@[go_sem] theorem tk446 : tk Tryz.prog 446 = TK.leaf := by kernel_rfl
@[go_sem] theorem tz446 : tz Tryz.prog 446 = AV.nfn := by kernel_rfl
@[go_sem] theorem dz446 : dz Tryz.prog 446 = AV.nfn := by kernel_rfl
@[go_sem] theorem tk447 : tk Tryz.prog 447 = TK.leaf := by kernel_rfl
@[go_sem] theorem tz447 : tz Tryz.prog 447 = AV.nfn := by kernel_rfl
@[go_sem] theorem dz447 : dz Tryz.prog 447 = AV.nfn := by kernel_rfl
@[go_sem] theorem tk448 : tk Tryz.prog 448 = TK.leaf := by kernel_rfl
@[go_sem] theorem tz448 : tz Tryz.prog 448 = AV.nfn := by kernel_rfl
@[go_sem] theorem dz448 : dz Tryz.prog 448 = AV.nfn := by kernel_rfl
@[go_sem] theorem tk449 : tk Tryz.prog 449 = TK.leaf := by kernel_rfl
@[go_sem] theorem tz449 : tz Tryz.prog 449 = AV.nfn := by kernel_rfl
@[go_sem] theorem dz449 : dz Tryz.prog 449 = AV.nfn := by kernel_rfl
@[go_sem] theorem tk450 : tk Tryz.prog 450 = TK.leaf := by kernel_rfl
@[go_sem] theorem tz450 : tz Tryz.prog 450 = AV.nfn := by kernel_rfl
@[go_sem] theorem dz450 : dz Tryz.prog 450 = AV.nfn := by kernel_rfl
@[go_sem] theorem tk451 : tk Tryz.prog 451 = TK.leaf := by kernel_rfl
@[go_sem] theorem tz451 : tz Tryz.prog 451 = AV.nfn := by kernel_rfl
@[go_sem] theorem dz451 : dz Tryz.prog 451 = AV.nfn := by kernel_rfl
@[go_sem] theorem tk452 : tk Tryz.prog 452 = TK.leaf := by kernel_rfl
@[go_sem] theorem tz452 : tz Tryz.prog 452 = AV.nfn := by kernel_rfl
@[go_sem] theorem dz452 : dz Tryz.prog 452 = AV.nfn := by kernel_rfl
@[go_sem] theorem tk453 : tk Tryz.prog 453 = TK.leaf := by kernel_rfl
@[go_sem] theorem tz453 : tz Tryz.prog 453 = AV.nfn := by kernel_rfl
@[go_sem] theorem dz453 : dz Tryz.prog 453 = AV.nfn := by kernel_rfl
@[go_sem] theorem tk454 : tk Tryz.prog 454 = TK.leaf := by kernel_rfl
@[go_sem] theorem tz454 : tz Tryz.prog 454 = AV.nfn := by kernel_rfl
@[go_sem] theorem dz454 : dz Tryz.prog 454 = AV.nfn := by kernel_rfl
@[go_sem] theorem tk455 : tk Tryz.prog 455 = TK.leaf := by kernel_rfl
@[go_sem] theorem tz455 : tz Tryz.prog 455 = AV.nfn := by kernel_rfl
@[go_sem] theorem dz455 : dz Tryz.prog 455 = AV.nfn := by kernel_rfl
@[go_sem] theorem tk456 : tk Tryz.prog 456 = TK.leaf := by kernel_rfl
@[go_sem] theorem tz456 : tz Tryz.prog 456 = AV.nfn := by kernel_rfl
@[go_sem] theorem dz456 : dz Tryz.prog 456 = AV.nfn := by kernel_rfl
@[go_sem] theorem tk457 : tk Tryz.prog 457 = TK.leaf := by kernel_rfl
@[go_sem] theorem tz457 : tz Tryz.prog 457 = AV.nfn := by kernel_rfl
@[go_sem] theorem dz457 : dz Tryz.prog 457 = AV.nfn := by kernel_rfl
@[go_sem] theorem tk459 : tk Tryz.prog 459 = TK.leaf := by kernel_rfl
@[go_sem] theorem tz459 : tz Tryz.prog 459 = AV.nfn := by kernel_rfl
@[go_sem] theorem dz459 : dz Tryz.prog 459 = AV.nfn := by kernel_rfl
@[go_sem] theorem tk460 : tk Tryz.prog 460 = TK.leaf := by kernel_rfl
@[go_sem] theorem tz460 : tz Tryz.prog 460 = AV.nfn := by kernel_rfl
@[go_sem] theorem dz460 : dz Tryz.prog 460 = AV.nfn := by kernel_rfl
@[go_sem] theorem tk461 : tk Tryz.prog 461 = TK.leaf := by kernel_rfl
@[go_sem] theorem tz461 : tz Tryz.prog 461 = AV.nfn := by kernel_rfl
@[go_sem] theorem dz461 : dz Tryz.prog 461 = AV.nfn := by kernel_rfl
@[go_sem] theorem tk462 : tk Tryz.prog 462 = TK.leaf := by kernel_rfl
@[go_sem] theorem tz462 : tz Tryz.prog 462 = AV.nfn := by kernel_rfl
@[go_sem] theorem dz462 : dz Tryz.prog 462 = AV.nfn := by kernel_rfl
@[go_sem] theorem tk464 : tk Tryz.prog 464 = TK.leaf := by kernel_rfl
@[go_sem] theorem tz464 : tz Tryz.prog 464 = AV.nfn := by kernel_rfl
@[go_sem] theorem dz464 : dz Tryz.prog 464 = AV.nfn := by kernel_rfl
@[go_sem] theorem tk465 : tk Tryz.prog 465 = TK.leaf := by kernel_rfl
@[go_sem] theorem tz465 : tz Tryz.prog 465 = AV.nfn := by kernel_rfl
@[go_sem] theorem dz465 : dz Tryz.prog 465 = AV.nfn := by kernel_rfl
@[go_sem] theorem tk466 : tk Tryz.prog 466 = TK.leaf := by kernel_rfl
@[go_sem] theorem tz466 : tz Tryz.prog 466 = AV.nfn := by kernel_rfl
@[go_sem] theorem dz466 : dz Tryz.prog 466 = AV.nfn := by kernel_rfl
@[go_sem] theorem tk467 : tk Tryz.prog 467 = TK.leaf := by kernel_rfl
@[go_sem] theorem tz467 : tz Tryz.prog 467 = AV.nfn := by kernel_rfl
@[go_sem] theorem dz467 : dz Tryz.prog 467 = AV.nfn := by kernel_rfl
@[go_sem] theorem tk468 : tk Tryz.prog 468 = TK.leaf := by kernel_rfl
@[go_sem] theorem tz468 : tz Tryz.prog 468 = AV.nfn := by kernel_rfl
@[go_sem] theorem dz468 : dz Tryz.prog 468 = AV.nfn := by kernel_rfl
@[go_sem] theorem tk469 : tk Tryz.prog 469 = TK.leaf := by kernel_rfl
@[go_sem] theorem tz469 : tz Tryz.prog 469 = AV.nfn := by kernel_rfl
@[go_sem] theorem dz469 : dz Tryz.prog 469 = AV.nfn := by kernel_rfl
@[go_sem] theorem tk470 : tk Tryz.prog 470 = TK.leaf := by kernel_rfl
@[go_sem] theorem tz470 : tz Tryz.prog 470 = AV.nfn := by kernel_rfl
@[go_sem] theorem dz470 : dz Tryz.prog 470 = AV.nfn := by kernel_rfl
@[go_sem] theorem tk471 : tk Tryz.prog 471 = TK.leaf := by kernel_rfl
@[go_sem] theorem tz471 : tz Tryz.prog 471 = AV.nfn := by kernel_rfl
@[go_sem] theorem dz471 : dz Tryz.prog 471 = AV.nfn := by kernel_rfl
@[go_sem] theorem tk472 : tk Tryz.prog 472 = TK.leaf := by kernel_rfl
@[go_sem] theorem tz472 : tz Tryz.prog 472 = AV.nfn := by kernel_rfl
@[go_sem] theorem dz472 : dz Tryz.prog 472 = AV.nfn := by kernel_rfl
@[go_sem] theorem tk473 : tk Tryz.prog 473 = TK.leaf := by kernel_rfl
@[go_sem] theorem tz473 : tz Tryz.prog 473 = AV.nfn := by kernel_rfl
@[go_sem] theorem dz473 : dz Tryz.prog 473 = AV.nfn := by kernel_rfl
@[go_sem] theorem tk475 : tk Tryz.prog 475 = TK.leaf := by kernel_rfl
@[go_sem] theorem tz475 : tz Tryz.prog 475 = AV.nfn := by kernel_rfl
@[go_sem] theorem dz475 : dz Tryz.prog 475 = AV.nfn := by kernel_rfl
@[go_sem] theorem tk476 : tk Tryz.prog 476 = TK.leaf := by kernel_rfl
@[go_sem] theorem tz476 : tz Tryz.prog 476 = AV.nfn := by kernel_rfl
@[go_sem] theorem dz476 : dz Tryz.prog 476 = AV.nfn := by kernel_rfl
@[go_sem] theorem tk477 : tk Tryz.prog 477 = TK.leaf := by kernel_rfl
@[go_sem] theorem tz477 : tz Tryz.prog 477 = AV.nfn := by kernel_rfl
@[go_sem] theorem dz477 : dz Tryz.prog 477 = AV.nfn := by kernel_rfl
@[go_sem] theorem tk478 : tk Tryz.prog 478 = TK.leaf := by kernel_rfl
@[go_sem] theorem tz478 : tz Tryz.prog 478 = AV.nfn := by kernel_rfl
@[go_sem] theorem dz478 : dz Tryz.prog 478 = AV.nfn := by kernel_rfl
@[go_sem] theorem tk479 : tk Tryz.prog 479 = TK.leaf := by kernel_rfl
@[go_sem] theorem tz479 : tz Tryz.prog 479 = AV.nfn := by kernel_rfl
@[go_sem] theorem dz479 : dz Tryz.prog 479 = AV.nfn := by kernel_rfl
@[go_sem] theorem tk480 : tk Tryz.prog 480 = TK.leaf := by kernel_rfl
@[go_sem] theorem tz480 : tz Tryz.prog 480 = AV.nfn := by kernel_rfl
@[go_sem] theorem dz480 : dz Tryz.prog 480 = AV.nfn := by kernel_rfl
@[go_sem] theorem tk481 : tk Tryz.prog 481 = TK.leaf := by kernel_rfl
@[go_sem] theorem tz481 : tz Tryz.prog 481 = AV.nfn := by kernel_rfl
@[go_sem] theorem dz481 : dz Tryz.prog 481 = AV.nfn := by kernel_rfl
@[go_sem] theorem tk482 : tk Tryz.prog 482 = TK.leaf := by kernel_rfl
@[go_sem] theorem tz482 : tz Tryz.prog 482 = AV.nfn := by kernel_rfl
@[go_sem] theorem dz482 : dz Tryz.prog 482 = AV.nfn := by kernel_rfl
@[go_sem] theorem tk483 : tk Tryz.prog 483 = TK.leaf := by kernel_rfl
@[go_sem] theorem tz483 : tz Tryz.prog 483 = AV.nfn := by kernel_rfl
@[go_sem] theorem dz483 : dz Tryz.prog 483 = AV.nfn := by kernel_rfl
@[go_sem] theorem tk484 : tk Tryz.prog 484 = TK.leaf := by kernel_rfl
@[go_sem] theorem tz484 : tz Tryz.prog 484 = AV.nfn := by kernel_rfl
@[go_sem] theorem dz484 : dz Tryz.prog 484 = AV.nfn := by kernel_rfl
@[go_sem] theorem tk486 : tk Tryz.prog 486 = TK.leaf := by kernel_rfl
@[go_sem] theorem tz486 : tz Tryz.prog 486 = AV.nfn := by kernel_rfl
@[go_sem] theorem dz486 : dz Tryz.prog 486 = AV.nfn := by kernel_rfl
@[go_sem] theorem tk487 : tk Tryz.prog 487 = TK.leaf := by kernel_rfl
@[go_sem] theorem tz487 : tz Tryz.prog 487 = AV.nfn := by kernel_rfl
@[go_sem] theorem dz487 : dz Tryz.prog 487 = AV.nfn := by kernel_rfl
@[go_sem] theorem tk488 : tk Tryz.prog 488 = TK.leaf := by kernel_rfl
@[go_sem] theorem tz488 : tz Tryz.prog 488 = AV.nfn := by kernel_rfl
@[go_sem] theorem dz488 : dz Tryz.prog 488 = AV.nfn := by kernel_rfl
@[go_sem] theorem tk489 : tk Tryz.prog 489 = TK.leaf := by kernel_rfl
@[go_sem] theorem tz489 : tz Tryz.prog 489 = AV.nfn := by kernel_rfl
@[go_sem] theorem dz489 : dz Tryz.prog 489 = AV.nfn := by kernel_rfl
@[go_sem] theorem tk490 : tk Tryz.prog 490 = TK.slice 27 1 := by kernel_rfl
@[go_sem] theorem tz490 : tz Tryz.prog 490 = AV.nls := by kernel_rfl
@[go_sem] theorem dz490 : dz Tryz.prog 490 = AV.sl 1 [] := by kernel_rfl
@[go_sem] theorem eb490 : eb Tryz.prog 490 = some 24 := by kernel_rfl
@[go_sem] theorem tk491 : tk Tryz.prog 491 = TK.leaf := by kernel_rfl
@[go_sem] theorem tz491 : tz Tryz.prog 491 = AV.nfn := by kernel_rfl
@[go_sem] theorem dz491 : dz Tryz.prog 491 = AV.nfn := by kernel_rfl
@[go_sem] theorem tk492 : tk Tryz.prog 492 = TK.struct 4 [some (0, 1), some (1, 1), some (2, 1), some (3, 1)] := by kernel_rfl
@[go_sem] theorem tz492 : tz Tryz.prog 492 = AV.agg [AV.npt, AV.npt, AV.npt, AV.str []] := by kernel_rfl
@[go_sem] theorem dz492 : dz Tryz.prog 492 = AV.agg [AV.npt, AV.npt, AV.npt, AV.str []] := by kernel_rfl
@[go_sem] theorem eb492 : eb Tryz.prog 492 = some 40 := by kernel_rfl
@[go_sem] theorem tk493 : tk Tryz.prog 493 = TK.struct 4 [some (0, 1), some (1, 1), some (2, 1), some (3, 1)] := by kernel_rfl
@[go_sem] theorem tz493 : tz Tryz.prog 493 = AV.agg [AV.npt, AV.npt, AV.npt, AV.str []] := by kernel_rfl
@[go_sem] theorem dz493 : dz Tryz.prog 493 = AV.agg [AV.npt, AV.npt, AV.npt, AV.str []] := by kernel_rfl
@[go_sem] theorem eb493 : eb Tryz.prog 493 = some 40 := by kernel_rfl
@[go_sem] theorem tk494 : tk Tryz.prog 494 = TK.arr 0 16 1 0 := by kernel_rfl
@[go_sem] theorem tz494 : tz Tryz.prog 494 = AV.agg [] := by kernel_rfl
@[go_sem] theorem dz494 : dz Tryz.prog 494 = AV.agg [] := by kernel_rfl
@[go_sem] theorem tk495 : tk Tryz.prog 495 = TK.struct 0 [none] := by kernel_rfl
@[go_sem] theorem tz495 : tz Tryz.prog 495 = AV.agg [] := by kernel_rfl
@[go_sem] theorem dz495 : dz Tryz.prog 495 = AV.agg [] := by kernel_rfl
@[go_sem] theorem tk496 : tk Tryz.prog 496 = TK.struct 0 [none] := by kernel_rfl
@[go_sem] theorem tz496 : tz Tryz.prog 496 = AV.agg [] := by kernel_rfl
@[go_sem] theorem dz496 : dz Tryz.prog 496 = AV.agg [] := by kernel_rfl
@[go_sem] theorem tk497 : tk Tryz.prog 497 = TK.int IntKind.u8 := by kernel_rfl
@[go_sem] theorem tz497 : tz Tryz.prog 497 = AV.int IntKind.u8 0 := by kernel_rfl
@[go_sem] theorem dz497 : dz Tryz.prog 497 = AV.int IntKind.u8 0 := by kernel_rfl
@[go_sem] theorem eb497 : eb Tryz.prog 497 = some 1 := by kernel_rfl
@[go_sem] theorem eq497 : eqK Tryz.prog 497 = some [1] := by kernel_rfl
@[go_sem] theorem tk498 : tk Tryz.prog 498 = TK.int IntKind.u8 := by kernel_rfl
@[go_sem] theorem tz498 : tz Tryz.prog 498 = AV.int IntKind.u8 0 := by kernel_rfl
@[go_sem] theorem dz498 : dz Tryz.prog 498 = AV.int IntKind.u8 0 := by kernel_rfl
@[go_sem] theorem eb498 : eb Tryz.prog 498 = some 1 := by kernel_rfl
@[go_sem] theorem eq498 : eqK Tryz.prog 498 = some [1] := by kernel_rfl
@[go_sem] theorem tk499 : tk Tryz.prog 499 = TK.leaf := by kernel_rfl
@[go_sem] theorem tz499 : tz Tryz.prog 499 = AV.nfn := by kernel_rfl
@[go_sem] theorem dz499 : dz Tryz.prog 499 = AV.nfn := by kernel_rfl
@[go_sem] theorem tk500 : tk Tryz.prog 500 = TK.int IntKind.i32 := by kernel_rfl
@[go_sem] theorem tz500 : tz Tryz.prog 500 = AV.int IntKind.i32 0 := by kernel_rfl
@[go_sem] theorem dz500 : dz Tryz.prog 500 = AV.int IntKind.i32 0 := by kernel_rfl
@[go_sem] theorem eb500 : eb Tryz.prog 500 = some 4 := by kernel_rfl
@[go_sem] theorem eq500 : eqK Tryz.prog 500 = some [1] := by kernel_rfl
@[go_sem] theorem tk501 : tk Tryz.prog 501 = TK.int IntKind.i32 := by kernel_rfl
@[go_sem] theorem tz501 : tz Tryz.prog 501 = AV.int IntKind.i32 0 := by kernel_rfl
@[go_sem] theorem dz501 : dz Tryz.prog 501 = AV.int IntKind.i32 0 := by kernel_rfl
@[go_sem] theorem eb501 : eb Tryz.prog 501 = some 4 := by kernel_rfl
@[go_sem] theorem eq501 : eqK Tryz.prog 501 = some [1] := by kernel_rfl
@[go_sem] theorem tk502 : tk Tryz.prog 502 = TK.struct 11 [some (0, 1), some (1, 1), some (2, 1), some (3, 1), some (4, 1), some (5, 1), some (6, 1), some (7, 1), some (8, 1), some (9, 1), some (10, 1)] := by kernel_rfl
@[go_sem] theorem tz502 : tz Tryz.prog 502 = AV.agg [AV.int IntKind.u64 0, AV.int IntKind.u64 0, AV.int IntKind.u32 0, AV.int IntKind.u8 0, AV.int IntKind.u8 0, AV.int IntKind.u8 0, AV.int IntKind.u8 0, AV.nfn, AV.npt, AV.int IntKind.i32 0, AV.int IntKind.i32 0] := by kernel_rfl
@[go_sem] theorem dz502 : dz Tryz.prog 502 = AV.agg [AV.int IntKind.u64 0, AV.int IntKind.u64 0, AV.int IntKind.u32 0, AV.int IntKind.u8 0, AV.int IntKind.u8 0, AV.int IntKind.u8 0, AV.int IntKind.u8 0, AV.nfn, AV.npt, AV.int IntKind.i32 0, AV.int IntKind.i32 0] := by kernel_rfl
@[go_sem] theorem eb502 : eb Tryz.prog 502 = some 48 := by kernel_rfl
@[go_sem] theorem tk503 : tk Tryz.prog 503 = TK.struct 11 [some (0, 1), some (1, 1), some (2, 1), some (3, 1), some (4, 1), some (5, 1), some (6, 1), some (7, 1), some (8, 1), some (9, 1), some (10, 1)] := by kernel_rfl
@[go_sem] theorem tz503 : tz Tryz.prog 503 = AV.agg [AV.int IntKind.u64 0, AV.int IntKind.u64 0, AV.int IntKind.u32 0, AV.int IntKind.u8 0, AV.int IntKind.u8 0, AV.int IntKind.u8 0, AV.int IntKind.u8 0, AV.nfn, AV.npt, AV.int IntKind.i32 0, AV.int IntKind.i32 0] := by kernel_rfl
@[go_sem] theorem dz503 : dz Tryz.prog 503 = AV.agg [AV.int IntKind.u64 0, AV.int IntKind.u64 0, AV.int IntKind.u32 0, AV.int IntKind.u8 0, AV.int IntKind.u8 0, AV.int IntKind.u8 0, AV.int IntKind.u8 0, AV.nfn, AV.npt, AV.int IntKind.i32 0, AV.int IntKind.i32 0] := by kernel_rfl
@[go_sem] theorem eb503 : eb Tryz.prog 503 = some 48 := by kernel_rfl
@[go_sem] theorem tk504 : tk Tryz.prog 504 = TK.leaf := by kernel_rfl
@[go_sem] theorem tz504 : tz Tryz.prog 504 = AV.nfn := by kernel_rfl
@[go_sem] theorem dz504 : dz Tryz.prog 504 = AV.nfn := by kernel_rfl
@[go_sem] theorem tk505 : tk Tryz.prog 505 = TK.leaf := by kernel_rfl
@[go_sem] theorem tz505 : tz Tryz.prog 505 = AV.nfn := by kernel_rfl
@[go_sem] theorem dz505 : dz Tryz.prog 505 = AV.nfn := by kernel_rfl
@[go_sem] theorem tk506 : tk Tryz.prog 506 = TK.leaf := by kernel_rfl
@[go_sem] theorem tz506 : tz Tryz.prog 506 = AV.nfn := by kernel_rfl
@[go_sem] theorem dz506 : dz Tryz.prog 506 = AV.nfn := by kernel_rfl
@[go_sem] theorem tk507 : tk Tryz.prog 507 = TK.leaf := by kernel_rfl
@[go_sem] theorem tz507 : tz Tryz.prog 507 = AV.nfn := by kernel_rfl
@[go_sem] theorem dz507 : dz Tryz.prog 507 = AV.nfn := by kernel_rfl
end Go.Pg
