/- Facts of the program's types, by the kernel. -/
import Derived.Test.YtefihnkbelhneaaDoorPgLst
import Derived.Test.YtefihnkbelhneaaDoorProg
import Derived.KernelRfl
namespace Go.Pg
open Go Go.Proofs
theorem mixed : Tryd.prog.follows .mixedOrders = true := by kernel_rfl
theorem tk1 : tk Tryd.prog 1 = TK.leaf := by kernel_rfl
theorem tz1 : tz Tryd.prog 1 = AV.nfn := by kernel_rfl
theorem dz1 : dz Tryd.prog 1 = AV.nfn := by kernel_rfl
theorem tk2 : tk Tryd.prog 2 = TK.int IntKind.i64 := by kernel_rfl
theorem tz2 : tz Tryd.prog 2 = AV.int IntKind.i64 0 := by kernel_rfl
theorem dz2 : dz Tryd.prog 2 = AV.int IntKind.i64 0 := by kernel_rfl
theorem eb2 : eb Tryd.prog 2 = some 8 := by kernel_rfl
theorem eq2 : eqK Tryd.prog 2 = some [1] := by kernel_rfl
theorem tk3 : tk Tryd.prog 3 = TK.int IntKind.i64 := by kernel_rfl
theorem tz3 : tz Tryd.prog 3 = AV.int IntKind.i64 0 := by kernel_rfl
theorem dz3 : dz Tryd.prog 3 = AV.int IntKind.i64 0 := by kernel_rfl
theorem eb3 : eb Tryd.prog 3 = some 8 := by kernel_rfl
theorem eq3 : eqK Tryd.prog 3 = some [1] := by kernel_rfl
theorem tk4 : tk Tryd.prog 4 = TK.bool := by kernel_rfl
theorem tz4 : tz Tryd.prog 4 = AV.bool false := by kernel_rfl
theorem dz4 : dz Tryd.prog 4 = AV.bool false := by kernel_rfl
theorem eb4 : eb Tryd.prog 4 = some 1 := by kernel_rfl
theorem eq4 : eqK Tryd.prog 4 = some [0] := by kernel_rfl
theorem tk5 : tk Tryd.prog 5 = TK.int IntKind.u8 := by kernel_rfl
theorem tz5 : tz Tryd.prog 5 = AV.int IntKind.u8 0 := by kernel_rfl
theorem dz5 : dz Tryd.prog 5 = AV.int IntKind.u8 0 := by kernel_rfl
theorem eb5 : eb Tryd.prog 5 = some 1 := by kernel_rfl
theorem eq5 : eqK Tryd.prog 5 = some [1] := by kernel_rfl
theorem tk6 : tk Tryd.prog 6 = TK.int IntKind.u8 := by kernel_rfl
theorem tz6 : tz Tryd.prog 6 = AV.int IntKind.u8 0 := by kernel_rfl
theorem dz6 : dz Tryd.prog 6 = AV.int IntKind.u8 0 := by kernel_rfl
theorem eb6 : eb Tryd.prog 6 = some 1 := by kernel_rfl
theorem eq6 : eqK Tryd.prog 6 = some [1] := by kernel_rfl
theorem tk7 : tk Tryd.prog 7 = TK.struct 4 [some (0, 1), some (1, 1), some (2, 1), some (3, 1)] := by kernel_rfl
theorem tz7 : tz Tryd.prog 7 = AV.agg [AV.int IntKind.i64 0, AV.int IntKind.i64 0, AV.bool false, AV.int IntKind.u8 0] := by kernel_rfl
theorem dz7 : dz Tryd.prog 7 = AV.agg [AV.int IntKind.i64 0, AV.int IntKind.i64 0, AV.bool false, AV.int IntKind.u8 0] := by kernel_rfl
theorem eb7 : eb Tryd.prog 7 = some 24 := by kernel_rfl
theorem eq7 : eqK Tryd.prog 7 = some [1, 1, 0, 1] := by kernel_rfl
theorem tk8 : tk Tryd.prog 8 = TK.struct 4 [some (0, 1), some (1, 1), some (2, 1), some (3, 1)] := by kernel_rfl
theorem tz8 : tz Tryd.prog 8 = AV.agg [AV.int IntKind.i64 0, AV.int IntKind.i64 0, AV.bool false, AV.int IntKind.u8 0] := by kernel_rfl
theorem dz8 : dz Tryd.prog 8 = AV.agg [AV.int IntKind.i64 0, AV.int IntKind.i64 0, AV.bool false, AV.int IntKind.u8 0] := by kernel_rfl
theorem eb8 : eb Tryd.prog 8 = some 24 := by kernel_rfl
theorem eq8 : eqK Tryd.prog 8 = some [1, 1, 0, 1] := by kernel_rfl
theorem tk9 : tk Tryd.prog 9 = TK.str := by kernel_rfl
theorem tz9 : tz Tryd.prog 9 = AV.str [] := by kernel_rfl
theorem dz9 : dz Tryd.prog 9 = AV.str [] := by kernel_rfl
theorem eb9 : eb Tryd.prog 9 = some 16 := by kernel_rfl
theorem eq9 : eqK Tryd.prog 9 = some [2] := by kernel_rfl
theorem tk10 : tk Tryd.prog 10 = TK.str := by kernel_rfl
theorem tz10 : tz Tryd.prog 10 = AV.str [] := by kernel_rfl
theorem dz10 : dz Tryd.prog 10 = AV.str [] := by kernel_rfl
theorem eb10 : eb Tryd.prog 10 = some 16 := by kernel_rfl
theorem eq10 : eqK Tryd.prog 10 = some [2] := by kernel_rfl
theorem tk11 : tk Tryd.prog 11 = TK.str := by kernel_rfl
theorem tz11 : tz Tryd.prog 11 = AV.str [] := by kernel_rfl
theorem dz11 : dz Tryd.prog 11 = AV.str [] := by kernel_rfl
theorem eb11 : eb Tryd.prog 11 = some 16 := by kernel_rfl
theorem eq11 : eqK Tryd.prog 11 = some [2] := by kernel_rfl
theorem tk12 : tk Tryd.prog 12 = TK.int IntKind.u64 := by kernel_rfl
theorem tz12 : tz Tryd.prog 12 = AV.int IntKind.u64 0 := by kernel_rfl
theorem dz12 : dz Tryd.prog 12 = AV.int IntKind.u64 0 := by kernel_rfl
theorem eb12 : eb Tryd.prog 12 = some 8 := by kernel_rfl
theorem eq12 : eqK Tryd.prog 12 = some [1] := by kernel_rfl
theorem tk13 : tk Tryd.prog 13 = TK.struct 2 [some (0, 1), some (1, 1)] := by kernel_rfl
theorem tz13 : tz Tryd.prog 13 = AV.agg [AV.str [], AV.int IntKind.u64 0] := by kernel_rfl
theorem dz13 : dz Tryd.prog 13 = AV.agg [AV.str [], AV.int IntKind.u64 0] := by kernel_rfl
theorem eb13 : eb Tryd.prog 13 = some 24 := by kernel_rfl
theorem tk14 : tk Tryd.prog 14 = TK.struct 2 [some (0, 1), some (1, 1)] := by kernel_rfl
theorem tz14 : tz Tryd.prog 14 = AV.agg [AV.str [], AV.int IntKind.u64 0] := by kernel_rfl
theorem dz14 : dz Tryd.prog 14 = AV.agg [AV.str [], AV.int IntKind.u64 0] := by kernel_rfl
theorem eb14 : eb Tryd.prog 14 = some 24 := by kernel_rfl
theorem tk15 : tk Tryd.prog 15 = TK.leaf := by kernel_rfl
theorem tk16 : tk Tryd.prog 16 = TK.leaf := by kernel_rfl
theorem tk17 : tk Tryd.prog 17 = TK.leaf := by kernel_rfl
theorem tk18 : tk Tryd.prog 18 = TK.struct 1 [some (0, 1)] := by kernel_rfl
theorem tz18 : tz Tryd.prog 18 = AV.agg [AV.top] := by kernel_rfl
theorem dz18 : dz Tryd.prog 18 = AV.agg [AV.top] := by kernel_rfl
theorem eb18 : eb Tryd.prog 18 = some 8 := by kernel_rfl
theorem tk19 : tk Tryd.prog 19 = TK.struct 1 [some (0, 1)] := by kernel_rfl
theorem tz19 : tz Tryd.prog 19 = AV.agg [AV.top] := by kernel_rfl
theorem dz19 : dz Tryd.prog 19 = AV.agg [AV.top] := by kernel_rfl
theorem eb19 : eb Tryd.prog 19 = some 8 := by kernel_rfl
theorem tk20 : tk Tryd.prog 20 = TK.leaf := by kernel_rfl
theorem tk21 : tk Tryd.prog 21 = TK.int IntKind.i32 := by kernel_rfl
theorem tz21 : tz Tryd.prog 21 = AV.int IntKind.i32 0 := by kernel_rfl
theorem dz21 : dz Tryd.prog 21 = AV.int IntKind.i32 0 := by kernel_rfl
theorem eb21 : eb Tryd.prog 21 = some 4 := by kernel_rfl
theorem eq21 : eqK Tryd.prog 21 = some [1] := by kernel_rfl
theorem tk22 : tk Tryd.prog 22 = TK.slice 9 1 := by kernel_rfl
theorem tz22 : tz Tryd.prog 22 = AV.nls := by kernel_rfl
theorem dz22 : dz Tryd.prog 22 = AV.sl 1 [] := by kernel_rfl
theorem eb22 : eb Tryd.prog 22 = some 24 := by kernel_rfl
theorem tk23 : tk Tryd.prog 23 = TK.struct 2 [some (0, 1), some (1, 1)] := by kernel_rfl
theorem tz23 : tz Tryd.prog 23 = AV.agg [AV.int IntKind.i64 0, AV.int IntKind.i64 0] := by kernel_rfl
theorem dz23 : dz Tryd.prog 23 = AV.agg [AV.int IntKind.i64 0, AV.int IntKind.i64 0] := by kernel_rfl
theorem eb23 : eb Tryd.prog 23 = some 16 := by kernel_rfl
theorem eq23 : eqK Tryd.prog 23 = some [1, 1] := by kernel_rfl
theorem tk24 : tk Tryd.prog 24 = TK.struct 2 [some (0, 1), some (1, 1)] := by kernel_rfl
theorem tz24 : tz Tryd.prog 24 = AV.agg [AV.int IntKind.i64 0, AV.int IntKind.i64 0] := by kernel_rfl
theorem dz24 : dz Tryd.prog 24 = AV.agg [AV.int IntKind.i64 0, AV.int IntKind.i64 0] := by kernel_rfl
theorem eb24 : eb Tryd.prog 24 = some 16 := by kernel_rfl
theorem eq24 : eqK Tryd.prog 24 = some [1, 1] := by kernel_rfl
theorem tk25 : tk Tryd.prog 25 = TK.int IntKind.u16 := by kernel_rfl
theorem tz25 : tz Tryd.prog 25 = AV.int IntKind.u16 0 := by kernel_rfl
theorem dz25 : dz Tryd.prog 25 = AV.int IntKind.u16 0 := by kernel_rfl
theorem eb25 : eb Tryd.prog 25 = some 2 := by kernel_rfl
theorem eq25 : eqK Tryd.prog 25 = some [1] := by kernel_rfl
theorem tk26 : tk Tryd.prog 26 = TK.leaf := by kernel_rfl
theorem tz26 : tz Tryd.prog 26 = AV.nfn := by kernel_rfl
theorem dz26 : dz Tryd.prog 26 = AV.nfn := by kernel_rfl
theorem tk27 : tk Tryd.prog 27 = TK.leaf := by kernel_rfl
theorem tz27 : tz Tryd.prog 27 = AV.nfn := by kernel_rfl
theorem dz27 : dz Tryd.prog 27 = AV.nfn := by kernel_rfl
theorem tk28 : tk Tryd.prog 28 = TK.leaf := by kernel_rfl
theorem tz28 : tz Tryd.prog 28 = AV.nfn := by kernel_rfl
theorem dz28 : dz Tryd.prog 28 = AV.nfn := by kernel_rfl
theorem tk29 : tk Tryd.prog 29 = TK.slice 24 2 := by kernel_rfl
theorem tz29 : tz Tryd.prog 29 = AV.nls := by kernel_rfl
theorem dz29 : dz Tryd.prog 29 = AV.sl 2 [] := by kernel_rfl
theorem eb29 : eb Tryd.prog 29 = some 24 := by kernel_rfl
theorem tk30 : tk Tryd.prog 30 = TK.struct 3 [some (0, 1), some (1, 1), some (2, 1)] := by kernel_rfl
theorem tz30 : tz Tryd.prog 30 = AV.agg [AV.int IntKind.i64 0, AV.nls, AV.nls] := by kernel_rfl
theorem dz30 : dz Tryd.prog 30 = AV.agg [AV.int IntKind.i64 0, AV.sl 1 [], AV.sl 1 []] := by kernel_rfl
theorem eb30 : eb Tryd.prog 30 = some 56 := by kernel_rfl
theorem tk31 : tk Tryd.prog 31 = TK.struct 3 [some (0, 1), some (1, 1), some (2, 1)] := by kernel_rfl
theorem tz31 : tz Tryd.prog 31 = AV.agg [AV.int IntKind.i64 0, AV.nls, AV.nls] := by kernel_rfl
theorem dz31 : dz Tryd.prog 31 = AV.agg [AV.int IntKind.i64 0, AV.sl 1 [], AV.sl 1 []] := by kernel_rfl
theorem eb31 : eb Tryd.prog 31 = some 56 := by kernel_rfl
theorem tk33 : tk Tryd.prog 33 = TK.leaf := by kernel_rfl
theorem tz33 : tz Tryd.prog 33 = AV.nfn := by kernel_rfl
theorem dz33 : dz Tryd.prog 33 = AV.nfn := by kernel_rfl
theorem tk34 : tk Tryd.prog 34 = TK.leaf := by kernel_rfl
theorem tz34 : tz Tryd.prog 34 = AV.nfn := by kernel_rfl
theorem dz34 : dz Tryd.prog 34 = AV.nfn := by kernel_rfl
theorem tk35 : tk Tryd.prog 35 = TK.slice 3 1 := by kernel_rfl
theorem tz35 : tz Tryd.prog 35 = AV.nls := by kernel_rfl
theorem dz35 : dz Tryd.prog 35 = AV.sl 1 [] := by kernel_rfl
theorem eb35 : eb Tryd.prog 35 = some 24 := by kernel_rfl
theorem tk37 : tk Tryd.prog 37 = TK.leaf := by kernel_rfl
theorem tz37 : tz Tryd.prog 37 = AV.nfn := by kernel_rfl
theorem dz37 : dz Tryd.prog 37 = AV.nfn := by kernel_rfl
theorem tk38 : tk Tryd.prog 38 = TK.leaf := by kernel_rfl
theorem tz38 : tz Tryd.prog 38 = AV.nfn := by kernel_rfl
theorem dz38 : dz Tryd.prog 38 = AV.nfn := by kernel_rfl
theorem tk39 : tk Tryd.prog 39 = TK.leaf := by kernel_rfl
theorem tz39 : tz Tryd.prog 39 = AV.nfn := by kernel_rfl
theorem dz39 : dz Tryd.prog 39 = AV.nfn := by kernel_rfl
theorem tk41 : tk Tryd.prog 41 = TK.leaf := by kernel_rfl
theorem tz41 : tz Tryd.prog 41 = AV.nfn := by kernel_rfl
theorem dz41 : dz Tryd.prog 41 = AV.nfn := by kernel_rfl
theorem tk42 : tk Tryd.prog 42 = TK.leaf := by kernel_rfl
theorem tz42 : tz Tryd.prog 42 = AV.nfn := by kernel_rfl
theorem dz42 : dz Tryd.prog 42 = AV.nfn := by kernel_rfl
theorem tk44 : tk Tryd.prog 44 = TK.leaf := by kernel_rfl
theorem tz44 : tz Tryd.prog 44 = AV.nfn := by kernel_rfl
theorem dz44 : dz Tryd.prog 44 = AV.nfn := by kernel_rfl
theorem tk45 : tk Tryd.prog 45 = TK.slice 31 3 := by kernel_rfl
theorem tz45 : tz Tryd.prog 45 = AV.nls := by kernel_rfl
theorem dz45 : dz Tryd.prog 45 = AV.sl 3 [] := by kernel_rfl
theorem eb45 : eb Tryd.prog 45 = some 24 := by kernel_rfl
theorem tk46 : tk Tryd.prog 46 = TK.leaf := by kernel_rfl
theorem tz46 : tz Tryd.prog 46 = AV.nfn := by kernel_rfl
theorem dz46 : dz Tryd.prog 46 = AV.nfn := by kernel_rfl
theorem tk47 : tk Tryd.prog 47 = TK.leaf := by kernel_rfl
theorem tz47 : tz Tryd.prog 47 = AV.nfn := by kernel_rfl
theorem dz47 : dz Tryd.prog 47 = AV.nfn := by kernel_rfl
theorem tk48 : tk Tryd.prog 48 = TK.struct 5 [some (0, 1), some (1, 2), some (3, 2)] := by kernel_rfl
theorem tz48 : tz Tryd.prog 48 = AV.agg [AV.int IntKind.i64 0, AV.int IntKind.i64 0, AV.int IntKind.i64 0, AV.int IntKind.i64 0, AV.int IntKind.i64 0] := by kernel_rfl
theorem dz48 : dz Tryd.prog 48 = AV.agg [AV.int IntKind.i64 0, AV.int IntKind.i64 0, AV.int IntKind.i64 0, AV.int IntKind.i64 0, AV.int IntKind.i64 0] := by kernel_rfl
theorem eb48 : eb Tryd.prog 48 = some 40 := by kernel_rfl
theorem eq48 : eqK Tryd.prog 48 = some [1, 1, 1, 1, 1] := by kernel_rfl
theorem tk49 : tk Tryd.prog 49 = TK.struct 5 [some (0, 1), some (1, 2), some (3, 2)] := by kernel_rfl
theorem tz49 : tz Tryd.prog 49 = AV.agg [AV.int IntKind.i64 0, AV.int IntKind.i64 0, AV.int IntKind.i64 0, AV.int IntKind.i64 0, AV.int IntKind.i64 0] := by kernel_rfl
theorem dz49 : dz Tryd.prog 49 = AV.agg [AV.int IntKind.i64 0, AV.int IntKind.i64 0, AV.int IntKind.i64 0, AV.int IntKind.i64 0, AV.int IntKind.i64 0] := by kernel_rfl
theorem eb49 : eb Tryd.prog 49 = some 40 := by kernel_rfl
theorem eq49 : eqK Tryd.prog 49 = some [1, 1, 1, 1, 1] := by kernel_rfl
theorem tk50 : tk Tryd.prog 50 = TK.leaf := by kernel_rfl
theorem tz50 : tz Tryd.prog 50 = AV.nfn := by kernel_rfl
theorem dz50 : dz Tryd.prog 50 = AV.nfn := by kernel_rfl
theorem tk51 : tk Tryd.prog 51 = TK.leaf := by kernel_rfl
theorem tz51 : tz Tryd.prog 51 = AV.nfn := by kernel_rfl
theorem dz51 : dz Tryd.prog 51 = AV.nfn := by kernel_rfl
theorem tk52 : tk Tryd.prog 52 = TK.leaf := by kernel_rfl
theorem tz52 : tz Tryd.prog 52 = AV.nfn := by kernel_rfl
theorem dz52 : dz Tryd.prog 52 = AV.nfn := by kernel_rfl
theorem tk53 : tk Tryd.prog 53 = TK.leaf := by kernel_rfl
theorem tz53 : tz Tryd.prog 53 = AV.nfn := by kernel_rfl
theorem dz53 : dz Tryd.prog 53 = AV.nfn := by kernel_rfl
theorem tk54 : tk Tryd.prog 54 = TK.arr 3 3 1 3 := by kernel_rfl
theorem tz54 : tz Tryd.prog 54 = AV.agg [AV.int IntKind.i64 0, AV.int IntKind.i64 0, AV.int IntKind.i64 0] := by kernel_rfl
theorem dz54 : dz Tryd.prog 54 = AV.agg [AV.int IntKind.i64 0, AV.int IntKind.i64 0, AV.int IntKind.i64 0] := by kernel_rfl
theorem eb54 : eb Tryd.prog 54 = some 24 := by kernel_rfl
theorem tk55 : tk Tryd.prog 55 = TK.slice 54 3 := by kernel_rfl
theorem tz55 : tz Tryd.prog 55 = AV.nls := by kernel_rfl
theorem dz55 : dz Tryd.prog 55 = AV.sl 3 [] := by kernel_rfl
theorem eb55 : eb Tryd.prog 55 = some 24 := by kernel_rfl
theorem tk56 : tk Tryd.prog 56 = TK.leaf := by kernel_rfl
theorem tz56 : tz Tryd.prog 56 = AV.nfn := by kernel_rfl
theorem dz56 : dz Tryd.prog 56 = AV.nfn := by kernel_rfl
theorem tk57 : tk Tryd.prog 57 = TK.leaf := by kernel_rfl
theorem tz57 : tz Tryd.prog 57 = AV.nfn := by kernel_rfl
theorem dz57 : dz Tryd.prog 57 = AV.nfn := by kernel_rfl
theorem tk58 : tk Tryd.prog 58 = TK.leaf := by kernel_rfl
theorem tz58 : tz Tryd.prog 58 = AV.nfn := by kernel_rfl
theorem dz58 : dz Tryd.prog 58 = AV.nfn := by kernel_rfl
theorem tk59 : tk Tryd.prog 59 = TK.leaf := by kernel_rfl
theorem tz59 : tz Tryd.prog 59 = AV.nfn := by kernel_rfl
theorem dz59 : dz Tryd.prog 59 = AV.nfn := by kernel_rfl
theorem tk60 : tk Tryd.prog 60 = TK.leaf := by kernel_rfl
theorem tz60 : tz Tryd.prog 60 = AV.nfn := by kernel_rfl
theorem dz60 : dz Tryd.prog 60 = AV.nfn := by kernel_rfl
theorem tk61 : tk Tryd.prog 61 = TK.leaf := by kernel_rfl
theorem tz61 : tz Tryd.prog 61 = AV.nfn := by kernel_rfl
theorem dz61 : dz Tryd.prog 61 = AV.nfn := by kernel_rfl
theorem tk62 : tk Tryd.prog 62 = TK.leaf := by kernel_rfl
theorem tz62 : tz Tryd.prog 62 = AV.nfn := by kernel_rfl
theorem dz62 : dz Tryd.prog 62 = AV.nfn := by kernel_rfl
theorem tk63 : tk Tryd.prog 63 = TK.leaf := by kernel_rfl
theorem tz63 : tz Tryd.prog 63 = AV.nfn := by kernel_rfl
theorem dz63 : dz Tryd.prog 63 = AV.nfn := by kernel_rfl
theorem tk64 : tk Tryd.prog 64 = TK.leaf := by kernel_rfl
theorem tz64 : tz Tryd.prog 64 = AV.nfn := by kernel_rfl
theorem dz64 : dz Tryd.prog 64 = AV.nfn := by kernel_rfl
theorem tk65 : tk Tryd.prog 65 = TK.leaf := by kernel_rfl
theorem tz65 : tz Tryd.prog 65 = AV.nfn := by kernel_rfl
theorem dz65 : dz Tryd.prog 65 = AV.nfn := by kernel_rfl
theorem tk66 : tk Tryd.prog 66 = TK.slice 5 1 := by kernel_rfl
theorem tz66 : tz Tryd.prog 66 = AV.nls := by kernel_rfl
theorem dz66 : dz Tryd.prog 66 = AV.sl 1 [] := by kernel_rfl
theorem eb66 : eb Tryd.prog 66 = some 24 := by kernel_rfl
theorem tk67 : tk Tryd.prog 67 = TK.leaf := by kernel_rfl
theorem tz67 : tz Tryd.prog 67 = AV.nfn := by kernel_rfl
theorem dz67 : dz Tryd.prog 67 = AV.nfn := by kernel_rfl
theorem tk68 : tk Tryd.prog 68 = TK.leaf := by kernel_rfl
theorem tz68 : tz Tryd.prog 68 = AV.nfn := by kernel_rfl
theorem dz68 : dz Tryd.prog 68 = AV.nfn := by kernel_rfl
theorem tk69 : tk Tryd.prog 69 = TK.leaf := by kernel_rfl
theorem tz69 : tz Tryd.prog 69 = AV.nfn := by kernel_rfl
theorem dz69 : dz Tryd.prog 69 = AV.nfn := by kernel_rfl
theorem tk70 : tk Tryd.prog 70 = TK.leaf := by kernel_rfl
theorem tz70 : tz Tryd.prog 70 = AV.nfn := by kernel_rfl
theorem dz70 : dz Tryd.prog 70 = AV.nfn := by kernel_rfl
theorem tk71 : tk Tryd.prog 71 = TK.leaf := by kernel_rfl
theorem tz71 : tz Tryd.prog 71 = AV.nfn := by kernel_rfl
theorem dz71 : dz Tryd.prog 71 = AV.nfn := by kernel_rfl
theorem tk72 : tk Tryd.prog 72 = TK.leaf := by kernel_rfl
theorem tz72 : tz Tryd.prog 72 = AV.nfn := by kernel_rfl
theorem dz72 : dz Tryd.prog 72 = AV.nfn := by kernel_rfl
theorem tk73 : tk Tryd.prog 73 = TK.leaf := by kernel_rfl
theorem tz73 : tz Tryd.prog 73 = AV.nfn := by kernel_rfl
theorem dz73 : dz Tryd.prog 73 = AV.nfn := by kernel_rfl
theorem tk75 : tk Tryd.prog 75 = TK.leaf := by kernel_rfl
theorem tz75 : tz Tryd.prog 75 = AV.nfn := by kernel_rfl
theorem dz75 : dz Tryd.prog 75 = AV.nfn := by kernel_rfl
theorem tk76 : tk Tryd.prog 76 = TK.leaf := by kernel_rfl
theorem tz76 : tz Tryd.prog 76 = AV.nfn := by kernel_rfl
theorem dz76 : dz Tryd.prog 76 = AV.nfn := by kernel_rfl
theorem tk77 : tk Tryd.prog 77 = TK.leaf := by kernel_rfl
theorem tz77 : tz Tryd.prog 77 = AV.nfn := by kernel_rfl
theorem dz77 : dz Tryd.prog 77 = AV.nfn := by kernel_rfl
theorem tk78 : tk Tryd.prog 78 = TK.leaf := by kernel_rfl
theorem tz78 : tz Tryd.prog 78 = AV.nfn := by kernel_rfl
theorem dz78 : dz Tryd.prog 78 = AV.nfn := by kernel_rfl
theorem tk79 : tk Tryd.prog 79 = TK.leaf := by kernel_rfl
theorem tz79 : tz Tryd.prog 79 = AV.nfn := by kernel_rfl
theorem dz79 : dz Tryd.prog 79 = AV.nfn := by kernel_rfl
theorem tk80 : tk Tryd.prog 80 = TK.leaf := by kernel_rfl
theorem tz80 : tz Tryd.prog 80 = AV.nfn := by kernel_rfl
theorem dz80 : dz Tryd.prog 80 = AV.nfn := by kernel_rfl
theorem tk81 : tk Tryd.prog 81 = TK.leaf := by kernel_rfl
theorem tz81 : tz Tryd.prog 81 = AV.nfn := by kernel_rfl
theorem dz81 : dz Tryd.prog 81 = AV.nfn := by kernel_rfl
theorem tk82 : tk Tryd.prog 82 = TK.leaf := by kernel_rfl
theorem tz82 : tz Tryd.prog 82 = AV.nfn := by kernel_rfl
theorem dz82 : dz Tryd.prog 82 = AV.nfn := by kernel_rfl
theorem tk86 : tk Tryd.prog 86 = TK.leaf := by kernel_rfl
theorem tz86 : tz Tryd.prog 86 = AV.nfn := by kernel_rfl
theorem dz86 : dz Tryd.prog 86 = AV.nfn := by kernel_rfl
theorem tk87 : tk Tryd.prog 87 = TK.leaf := by kernel_rfl
theorem tz87 : tz Tryd.prog 87 = AV.nfn := by kernel_rfl
theorem dz87 : dz Tryd.prog 87 = AV.nfn := by kernel_rfl
theorem tk88 : tk Tryd.prog 88 = TK.leaf := by kernel_rfl
theorem tk89 : tk Tryd.prog 89 = TK.leaf := by kernel_rfl
theorem tz89 : tz Tryd.prog 89 = AV.nfn := by kernel_rfl
theorem dz89 : dz Tryd.prog 89 = AV.nfn := by kernel_rfl
theorem tk90 : tk Tryd.prog 90 = TK.leaf := by kernel_rfl
theorem tz90 : tz Tryd.prog 90 = AV.nfn := by kernel_rfl
theorem dz90 : dz Tryd.prog 90 = AV.nfn := by kernel_rfl
theorem tk92 : tk Tryd.prog 92 = TK.leaf := by kernel_rfl
theorem tz92 : tz Tryd.prog 92 = AV.nfn := by kernel_rfl
theorem dz92 : dz Tryd.prog 92 = AV.nfn := by kernel_rfl
theorem tk93 : tk Tryd.prog 93 = TK.leaf := by kernel_rfl
theorem tz93 : tz Tryd.prog 93 = AV.nfn := by kernel_rfl
theorem dz93 : dz Tryd.prog 93 = AV.nfn := by kernel_rfl
theorem tk94 : tk Tryd.prog 94 = TK.int IntKind.u64 := by kernel_rfl
theorem tz94 : tz Tryd.prog 94 = AV.int IntKind.u64 0 := by kernel_rfl
theorem dz94 : dz Tryd.prog 94 = AV.int IntKind.u64 0 := by kernel_rfl
theorem eb94 : eb Tryd.prog 94 = some 8 := by kernel_rfl
theorem eq94 : eqK Tryd.prog 94 = some [1] := by kernel_rfl
theorem tk96 : tk Tryd.prog 96 = TK.leaf := by kernel_rfl
theorem tz96 : tz Tryd.prog 96 = AV.nfn := by kernel_rfl
theorem dz96 : dz Tryd.prog 96 = AV.nfn := by kernel_rfl
theorem tk97 : tk Tryd.prog 97 = TK.leaf := by kernel_rfl
theorem tk98 : tk Tryd.prog 98 = TK.struct 2 [some (0, 1), some (1, 1)] := by kernel_rfl
theorem tz98 : tz Tryd.prog 98 = AV.agg [AV.top, AV.nls] := by kernel_rfl
theorem dz98 : dz Tryd.prog 98 = AV.agg [AV.top, AV.sl 1 []] := by kernel_rfl
theorem eb98 : eb Tryd.prog 98 = some 32 := by kernel_rfl
theorem tk99 : tk Tryd.prog 99 = TK.struct 2 [some (0, 1), some (1, 1)] := by kernel_rfl
theorem tz99 : tz Tryd.prog 99 = AV.agg [AV.top, AV.nls] := by kernel_rfl
theorem dz99 : dz Tryd.prog 99 = AV.agg [AV.top, AV.sl 1 []] := by kernel_rfl
theorem eb99 : eb Tryd.prog 99 = some 32 := by kernel_rfl
theorem tk100 : tk Tryd.prog 100 = TK.leaf := by kernel_rfl
theorem tz100 : tz Tryd.prog 100 = AV.nfn := by kernel_rfl
theorem dz100 : dz Tryd.prog 100 = AV.nfn := by kernel_rfl
theorem tk101 : tk Tryd.prog 101 = TK.leaf := by kernel_rfl
theorem tk102 : tk Tryd.prog 102 = TK.leaf := by kernel_rfl
theorem tk104 : tk Tryd.prog 104 = TK.leaf := by kernel_rfl
theorem tz104 : tz Tryd.prog 104 = AV.nfn := by kernel_rfl
theorem dz104 : dz Tryd.prog 104 = AV.nfn := by kernel_rfl
theorem tk105 : tk Tryd.prog 105 = TK.leaf := by kernel_rfl
theorem tz105 : tz Tryd.prog 105 = AV.nfn := by kernel_rfl
theorem dz105 : dz Tryd.prog 105 = AV.nfn := by kernel_rfl
theorem tk106 : tk Tryd.prog 106 = TK.leaf := by kernel_rfl
theorem tz106 : tz Tryd.prog 106 = AV.nfn := by kernel_rfl
theorem dz106 : dz Tryd.prog 106 = AV.nfn := by kernel_rfl
theorem tk107 : tk Tryd.prog 107 = TK.leaf := by kernel_rfl
theorem tz107 : tz Tryd.prog 107 = AV.nfn := by kernel_rfl
theorem dz107 : dz Tryd.prog 107 = AV.nfn := by kernel_rfl
theorem tk108 : tk Tryd.prog 108 = TK.int IntKind.u32 := by kernel_rfl
theorem tz108 : tz Tryd.prog 108 = AV.int IntKind.u32 0 := by kernel_rfl
theorem dz108 : dz Tryd.prog 108 = AV.int IntKind.u32 0 := by kernel_rfl
theorem eb108 : eb Tryd.prog 108 = some 4 := by kernel_rfl
theorem eq108 : eqK Tryd.prog 108 = some [1] := by kernel_rfl
theorem tk110 : tk Tryd.prog 110 = TK.leaf := by kernel_rfl
theorem tz110 : tz Tryd.prog 110 = AV.nfn := by kernel_rfl
theorem dz110 : dz Tryd.prog 110 = AV.nfn := by kernel_rfl
theorem tk111 : tk Tryd.prog 111 = TK.int IntKind.u64 := by kernel_rfl
theorem tz111 : tz Tryd.prog 111 = AV.int IntKind.u64 0 := by kernel_rfl
theorem dz111 : dz Tryd.prog 111 = AV.int IntKind.u64 0 := by kernel_rfl
theorem eb111 : eb Tryd.prog 111 = some 8 := by kernel_rfl
theorem eq111 : eqK Tryd.prog 111 = some [1] := by kernel_rfl
theorem tk113 : tk Tryd.prog 113 = TK.leaf := by kernel_rfl
theorem tz113 : tz Tryd.prog 113 = AV.nfn := by kernel_rfl
theorem dz113 : dz Tryd.prog 113 = AV.nfn := by kernel_rfl
theorem tk114 : tk Tryd.prog 114 = TK.leaf := by kernel_rfl
theorem tk116 : tk Tryd.prog 116 = TK.struct 2 [some (0, 1), some (1, 1)] := by kernel_rfl
theorem tz116 : tz Tryd.prog 116 = AV.agg [AV.int IntKind.u8 0, AV.int IntKind.u8 0] := by kernel_rfl
theorem dz116 : dz Tryd.prog 116 = AV.agg [AV.int IntKind.u8 0, AV.int IntKind.u8 0] := by kernel_rfl
theorem eb116 : eb Tryd.prog 116 = some 2 := by kernel_rfl
theorem eq116 : eqK Tryd.prog 116 = some [1, 1] := by kernel_rfl
theorem tk117 : tk Tryd.prog 117 = TK.struct 2 [some (0, 1), some (1, 1)] := by kernel_rfl
theorem tz117 : tz Tryd.prog 117 = AV.agg [AV.int IntKind.u8 0, AV.int IntKind.u8 0] := by kernel_rfl
theorem dz117 : dz Tryd.prog 117 = AV.agg [AV.int IntKind.u8 0, AV.int IntKind.u8 0] := by kernel_rfl
theorem eb117 : eb Tryd.prog 117 = some 2 := by kernel_rfl
theorem eq117 : eqK Tryd.prog 117 = some [1, 1] := by kernel_rfl
theorem tk118 : tk Tryd.prog 118 = TK.arr 16 117 2 32 := by kernel_rfl
theorem tz118 : tz Tryd.prog 118 = AV.agg [AV.int IntKind.u8 0, AV.int IntKind.u8 0, AV.int IntKind.u8 0, AV.int IntKind.u8 0, AV.int IntKind.u8 0, AV.int IntKind.u8 0, AV.int IntKind.u8 0, AV.int IntKind.u8 0, AV.int IntKind.u8 0, AV.int IntKind.u8 0, AV.int IntKind.u8 0, AV.int IntKind.u8 0, AV.int IntKind.u8 0, AV.int IntKind.u8 0, AV.int IntKind.u8 0, AV.int IntKind.u8 0, AV.int IntKind.u8 0, AV.int IntKind.u8 0, AV.int IntKind.u8 0, AV.int IntKind.u8 0, AV.int IntKind.u8 0, AV.int IntKind.u8 0, AV.int IntKind.u8 0, AV.int IntKind.u8 0, AV.int IntKind.u8 0, AV.int IntKind.u8 0, AV.int IntKind.u8 0, AV.int IntKind.u8 0, AV.int IntKind.u8 0, AV.int IntKind.u8 0, AV.int IntKind.u8 0, AV.int IntKind.u8 0] := by kernel_rfl
theorem dz118 : dz Tryd.prog 118 = AV.agg [AV.int IntKind.u8 0, AV.int IntKind.u8 0, AV.int IntKind.u8 0, AV.int IntKind.u8 0, AV.int IntKind.u8 0, AV.int IntKind.u8 0, AV.int IntKind.u8 0, AV.int IntKind.u8 0, AV.int IntKind.u8 0, AV.int IntKind.u8 0, AV.int IntKind.u8 0, AV.int IntKind.u8 0, AV.int IntKind.u8 0, AV.int IntKind.u8 0, AV.int IntKind.u8 0, AV.int IntKind.u8 0, AV.int IntKind.u8 0, AV.int IntKind.u8 0, AV.int IntKind.u8 0, AV.int IntKind.u8 0, AV.int IntKind.u8 0, AV.int IntKind.u8 0, AV.int IntKind.u8 0, AV.int IntKind.u8 0, AV.int IntKind.u8 0, AV.int IntKind.u8 0, AV.int IntKind.u8 0, AV.int IntKind.u8 0, AV.int IntKind.u8 0, AV.int IntKind.u8 0, AV.int IntKind.u8 0, AV.int IntKind.u8 0] := by kernel_rfl
theorem eb118 : eb Tryd.prog 118 = some 32 := by kernel_rfl
theorem tk119 : tk Tryd.prog 119 = TK.leaf := by kernel_rfl
theorem tz119 : tz Tryd.prog 119 = AV.nfn := by kernel_rfl
theorem dz119 : dz Tryd.prog 119 = AV.nfn := by kernel_rfl
theorem tk120 : tk Tryd.prog 120 = TK.leaf := by kernel_rfl
theorem tz120 : tz Tryd.prog 120 = AV.nfn := by kernel_rfl
theorem dz120 : dz Tryd.prog 120 = AV.nfn := by kernel_rfl
theorem tk121 : tk Tryd.prog 121 = TK.leaf := by kernel_rfl
theorem tz121 : tz Tryd.prog 121 = AV.nfn := by kernel_rfl
theorem dz121 : dz Tryd.prog 121 = AV.nfn := by kernel_rfl
theorem tk122 : tk Tryd.prog 122 = TK.leaf := by kernel_rfl
theorem tz122 : tz Tryd.prog 122 = AV.nfn := by kernel_rfl
theorem dz122 : dz Tryd.prog 122 = AV.nfn := by kernel_rfl
theorem tk124 : tk Tryd.prog 124 = TK.leaf := by kernel_rfl
theorem tz124 : tz Tryd.prog 124 = AV.nfn := by kernel_rfl
theorem dz124 : dz Tryd.prog 124 = AV.nfn := by kernel_rfl
theorem tk125 : tk Tryd.prog 125 = TK.leaf := by kernel_rfl
theorem tz125 : tz Tryd.prog 125 = AV.nfn := by kernel_rfl
theorem dz125 : dz Tryd.prog 125 = AV.nfn := by kernel_rfl
theorem tk126 : tk Tryd.prog 126 = TK.struct 4 [some (0, 1), some (1, 1), some (2, 1), some (3, 1)] := by kernel_rfl
theorem tz126 : tz Tryd.prog 126 = AV.agg [AV.top, AV.top, AV.top, AV.str []] := by kernel_rfl
theorem dz126 : dz Tryd.prog 126 = AV.agg [AV.top, AV.top, AV.top, AV.str []] := by kernel_rfl
theorem eb126 : eb Tryd.prog 126 = some 40 := by kernel_rfl
theorem tk127 : tk Tryd.prog 127 = TK.struct 4 [some (0, 1), some (1, 1), some (2, 1), some (3, 1)] := by kernel_rfl
theorem tz127 : tz Tryd.prog 127 = AV.agg [AV.top, AV.top, AV.top, AV.str []] := by kernel_rfl
theorem dz127 : dz Tryd.prog 127 = AV.agg [AV.top, AV.top, AV.top, AV.str []] := by kernel_rfl
theorem eb127 : eb Tryd.prog 127 = some 40 := by kernel_rfl
theorem tk128 : tk Tryd.prog 128 = TK.arr 0 16 1 0 := by kernel_rfl
theorem tz128 : tz Tryd.prog 128 = AV.agg [] := by kernel_rfl
theorem dz128 : dz Tryd.prog 128 = AV.agg [] := by kernel_rfl
theorem tk129 : tk Tryd.prog 129 = TK.struct 0 [none] := by kernel_rfl
theorem tz129 : tz Tryd.prog 129 = AV.agg [] := by kernel_rfl
theorem dz129 : dz Tryd.prog 129 = AV.agg [] := by kernel_rfl
theorem tk130 : tk Tryd.prog 130 = TK.struct 0 [none] := by kernel_rfl
theorem tz130 : tz Tryd.prog 130 = AV.agg [] := by kernel_rfl
theorem dz130 : dz Tryd.prog 130 = AV.agg [] := by kernel_rfl
theorem tk131 : tk Tryd.prog 131 = TK.int IntKind.u8 := by kernel_rfl
theorem tz131 : tz Tryd.prog 131 = AV.int IntKind.u8 0 := by kernel_rfl
theorem dz131 : dz Tryd.prog 131 = AV.int IntKind.u8 0 := by kernel_rfl
theorem eb131 : eb Tryd.prog 131 = some 1 := by kernel_rfl
theorem eq131 : eqK Tryd.prog 131 = some [1] := by kernel_rfl
theorem tk132 : tk Tryd.prog 132 = TK.int IntKind.u8 := by kernel_rfl
theorem tz132 : tz Tryd.prog 132 = AV.int IntKind.u8 0 := by kernel_rfl
theorem dz132 : dz Tryd.prog 132 = AV.int IntKind.u8 0 := by kernel_rfl
theorem eb132 : eb Tryd.prog 132 = some 1 := by kernel_rfl
theorem eq132 : eqK Tryd.prog 132 = some [1] := by kernel_rfl
theorem tk133 : tk Tryd.prog 133 = TK.leaf := by kernel_rfl
theorem tz133 : tz Tryd.prog 133 = AV.nfn := by kernel_rfl
theorem dz133 : dz Tryd.prog 133 = AV.nfn := by kernel_rfl
theorem tk134 : tk Tryd.prog 134 = TK.int IntKind.i32 := by kernel_rfl
theorem tz134 : tz Tryd.prog 134 = AV.int IntKind.i32 0 := by kernel_rfl
theorem dz134 : dz Tryd.prog 134 = AV.int IntKind.i32 0 := by kernel_rfl
theorem eb134 : eb Tryd.prog 134 = some 4 := by kernel_rfl
theorem eq134 : eqK Tryd.prog 134 = some [1] := by kernel_rfl
theorem tk135 : tk Tryd.prog 135 = TK.int IntKind.i32 := by kernel_rfl
theorem tz135 : tz Tryd.prog 135 = AV.int IntKind.i32 0 := by kernel_rfl
theorem dz135 : dz Tryd.prog 135 = AV.int IntKind.i32 0 := by kernel_rfl
theorem eb135 : eb Tryd.prog 135 = some 4 := by kernel_rfl
theorem eq135 : eqK Tryd.prog 135 = some [1] := by kernel_rfl
theorem tk136 : tk Tryd.prog 136 = TK.struct 11 [some (0, 1), some (1, 1), some (2, 1), some (3, 1), some (4, 1), some (5, 1), some (6, 1), some (7, 1), some (8, 1), some (9, 1), some (10, 1)] := by kernel_rfl
theorem tz136 : tz Tryd.prog 136 = AV.agg [AV.int IntKind.u64 0, AV.int IntKind.u64 0, AV.int IntKind.u32 0, AV.int IntKind.u8 0, AV.int IntKind.u8 0, AV.int IntKind.u8 0, AV.int IntKind.u8 0, AV.nfn, AV.top, AV.int IntKind.i32 0, AV.int IntKind.i32 0] := by kernel_rfl
theorem dz136 : dz Tryd.prog 136 = AV.agg [AV.int IntKind.u64 0, AV.int IntKind.u64 0, AV.int IntKind.u32 0, AV.int IntKind.u8 0, AV.int IntKind.u8 0, AV.int IntKind.u8 0, AV.int IntKind.u8 0, AV.nfn, AV.top, AV.int IntKind.i32 0, AV.int IntKind.i32 0] := by kernel_rfl
theorem eb136 : eb Tryd.prog 136 = some 48 := by kernel_rfl
theorem tk137 : tk Tryd.prog 137 = TK.struct 11 [some (0, 1), some (1, 1), some (2, 1), some (3, 1), some (4, 1), some (5, 1), some (6, 1), some (7, 1), some (8, 1), some (9, 1), some (10, 1)] := by kernel_rfl
theorem tz137 : tz Tryd.prog 137 = AV.agg [AV.int IntKind.u64 0, AV.int IntKind.u64 0, AV.int IntKind.u32 0, AV.int IntKind.u8 0, AV.int IntKind.u8 0, AV.int IntKind.u8 0, AV.int IntKind.u8 0, AV.nfn, AV.top, AV.int IntKind.i32 0, AV.int IntKind.i32 0] := by kernel_rfl
theorem dz137 : dz Tryd.prog 137 = AV.agg [AV.int IntKind.u64 0, AV.int IntKind.u64 0, AV.int IntKind.u32 0, AV.int IntKind.u8 0, AV.int IntKind.u8 0, AV.int IntKind.u8 0, AV.int IntKind.u8 0, AV.nfn, AV.top, AV.int IntKind.i32 0, AV.int IntKind.i32 0] := by kernel_rfl
theorem eb137 : eb Tryd.prog 137 = some 48 := by kernel_rfl
end Go.Pg
