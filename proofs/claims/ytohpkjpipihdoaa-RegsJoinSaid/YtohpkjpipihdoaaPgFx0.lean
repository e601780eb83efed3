/- Facts of the program's types, by the kernel. Lists of strings are compared as they are. Marks: made, set, asked. -/
import Derived.Test.YtohpkjpipihdoaaPgLst
import Derived.Test.YtohpkjpipihdoaaProg
import Derived.KernelRfl
import Derived.Test.YtohpkjpipihdoaaPgHcd
namespace Go.Pg
open Go Go.Proofs
theorem mixed : Try.prog.follows .mixedOrders = true := by kernel_rfl
theorem tk1 : tk Try.prog 1 = TK.leaf := by kernel_rfl
theorem tz1 : tz Try.prog 1 = AV.nfn := by kernel_rfl
theorem dz1 : dz Try.prog 1 = AV.nfn := by kernel_rfl
theorem tk2 : tk Try.prog 2 = TK.int IntKind.i64 := by kernel_rfl
theorem tz2 : tz Try.prog 2 = AV.int IntKind.i64 0 := by kernel_rfl
theorem dz2 : dz Try.prog 2 = AV.int IntKind.i64 0 := by kernel_rfl
theorem eb2 : eb Try.prog 2 = some 8 := by kernel_rfl
theorem eq2 : eqK Try.prog 2 = some [1] := by kernel_rfl
theorem tk3 : tk Try.prog 3 = TK.int IntKind.i64 := by kernel_rfl
theorem tz3 : tz Try.prog 3 = AV.int IntKind.i64 0 := by kernel_rfl
theorem dz3 : dz Try.prog 3 = AV.int IntKind.i64 0 := by kernel_rfl
theorem eb3 : eb Try.prog 3 = some 8 := by kernel_rfl
theorem eq3 : eqK Try.prog 3 = some [1] := by kernel_rfl
theorem tk4 : tk Try.prog 4 = TK.bool := by kernel_rfl
theorem tz4 : tz Try.prog 4 = AV.bool false := by kernel_rfl
theorem dz4 : dz Try.prog 4 = AV.bool false := by kernel_rfl
theorem eb4 : eb Try.prog 4 = some 1 := by kernel_rfl
theorem eq4 : eqK Try.prog 4 = some [0] := by kernel_rfl
theorem tk5 : tk Try.prog 5 = TK.int IntKind.u8 := by kernel_rfl
theorem tz5 : tz Try.prog 5 = AV.int IntKind.u8 0 := by kernel_rfl
theorem dz5 : dz Try.prog 5 = AV.int IntKind.u8 0 := by kernel_rfl
theorem eb5 : eb Try.prog 5 = some 1 := by kernel_rfl
theorem eq5 : eqK Try.prog 5 = some [1] := by kernel_rfl
theorem tk6 : tk Try.prog 6 = TK.int IntKind.u8 := by kernel_rfl
theorem tz6 : tz Try.prog 6 = AV.int IntKind.u8 0 := by kernel_rfl
theorem dz6 : dz Try.prog 6 = AV.int IntKind.u8 0 := by kernel_rfl
theorem eb6 : eb Try.prog 6 = some 1 := by kernel_rfl
theorem eq6 : eqK Try.prog 6 = some [1] := by kernel_rfl
theorem tk7 : tk Try.prog 7 = TK.struct 4 [some (0, 1), some (1, 1), some (2, 1), some (3, 1)] := by kernel_rfl
theorem tz7 : tz Try.prog 7 = AV.agg [AV.int IntKind.i64 0, AV.int IntKind.i64 0, AV.bool false, AV.int IntKind.u8 0] := by kernel_rfl
theorem dz7 : dz Try.prog 7 = AV.agg [AV.int IntKind.i64 0, AV.int IntKind.i64 0, AV.bool false, AV.int IntKind.u8 0] := by kernel_rfl
theorem eb7 : eb Try.prog 7 = some 24 := by kernel_rfl
theorem eq7 : eqK Try.prog 7 = some [1, 1, 0, 1] := by kernel_rfl
theorem tk8 : tk Try.prog 8 = TK.struct 4 [some (0, 1), some (1, 1), some (2, 1), some (3, 1)] := by kernel_rfl
theorem tz8 : tz Try.prog 8 = AV.agg [AV.int IntKind.i64 0, AV.int IntKind.i64 0, AV.bool false, AV.int IntKind.u8 0] := by kernel_rfl
theorem dz8 : dz Try.prog 8 = AV.agg [AV.int IntKind.i64 0, AV.int IntKind.i64 0, AV.bool false, AV.int IntKind.u8 0] := by kernel_rfl
theorem eb8 : eb Try.prog 8 = some 24 := by kernel_rfl
theorem eq8 : eqK Try.prog 8 = some [1, 1, 0, 1] := by kernel_rfl
theorem tk9 : tk Try.prog 9 = TK.str := by kernel_rfl
theorem tz9 : tz Try.prog 9 = AV.str [] := by kernel_rfl
theorem dz9 : dz Try.prog 9 = AV.str [] := by kernel_rfl
theorem eb9 : eb Try.prog 9 = some 16 := by kernel_rfl
theorem eq9 : eqK Try.prog 9 = some [2] := by kernel_rfl
theorem tk10 : tk Try.prog 10 = TK.str := by kernel_rfl
theorem tz10 : tz Try.prog 10 = AV.str [] := by kernel_rfl
theorem dz10 : dz Try.prog 10 = AV.str [] := by kernel_rfl
theorem eb10 : eb Try.prog 10 = some 16 := by kernel_rfl
theorem eq10 : eqK Try.prog 10 = some [2] := by kernel_rfl
theorem tk11 : tk Try.prog 11 = TK.str := by kernel_rfl
theorem tz11 : tz Try.prog 11 = AV.str [] := by kernel_rfl
theorem dz11 : dz Try.prog 11 = AV.str [] := by kernel_rfl
theorem eb11 : eb Try.prog 11 = some 16 := by kernel_rfl
theorem eq11 : eqK Try.prog 11 = some [2] := by kernel_rfl
theorem tk12 : tk Try.prog 12 = TK.int IntKind.u64 := by kernel_rfl
theorem tz12 : tz Try.prog 12 = AV.int IntKind.u64 0 := by kernel_rfl
theorem dz12 : dz Try.prog 12 = AV.int IntKind.u64 0 := by kernel_rfl
theorem eb12 : eb Try.prog 12 = some 8 := by kernel_rfl
theorem eq12 : eqK Try.prog 12 = some [1] := by kernel_rfl
theorem tk13 : tk Try.prog 13 = TK.struct 2 [some (0, 1), some (1, 1)] := by kernel_rfl
theorem tz13 : tz Try.prog 13 = AV.agg [AV.str [], AV.int IntKind.u64 0] := by kernel_rfl
theorem dz13 : dz Try.prog 13 = AV.agg [AV.str [], AV.int IntKind.u64 0] := by kernel_rfl
theorem eb13 : eb Try.prog 13 = some 24 := by kernel_rfl
theorem tk14 : tk Try.prog 14 = TK.struct 2 [some (0, 1), some (1, 1)] := by kernel_rfl
theorem tz14 : tz Try.prog 14 = AV.agg [AV.str [], AV.int IntKind.u64 0] := by kernel_rfl
theorem dz14 : dz Try.prog 14 = AV.agg [AV.str [], AV.int IntKind.u64 0] := by kernel_rfl
theorem eb14 : eb Try.prog 14 = some 24 := by kernel_rfl
theorem tk15 : tk Try.prog 15 = TK.leaf := by kernel_rfl
theorem tz15 : tz Try.prog 15 = AV.npt := by kernel_rfl
theorem dz15 : dz Try.prog 15 = AV.npt := by kernel_rfl
theorem pt15 : ptrT Try.prog 15 = true := by kernel_rfl
theorem tk16 : tk Try.prog 16 = TK.leaf := by kernel_rfl
theorem tz16 : tz Try.prog 16 = AV.npt := by kernel_rfl
theorem dz16 : dz Try.prog 16 = AV.npt := by kernel_rfl
theorem pt16 : ptrT Try.prog 16 = true := by kernel_rfl
theorem tk17 : tk Try.prog 17 = TK.leaf := by kernel_rfl
theorem tz17 : tz Try.prog 17 = AV.npt := by kernel_rfl
theorem dz17 : dz Try.prog 17 = AV.npt := by kernel_rfl
theorem pt17 : ptrT Try.prog 17 = true := by kernel_rfl
theorem tk18 : tk Try.prog 18 = TK.struct 1 [some (0, 1)] := by kernel_rfl
theorem tz18 : tz Try.prog 18 = AV.agg [AV.npt] := by kernel_rfl
theorem dz18 : dz Try.prog 18 = AV.agg [AV.npt] := by kernel_rfl
theorem eb18 : eb Try.prog 18 = some 8 := by kernel_rfl
theorem tk19 : tk Try.prog 19 = TK.struct 1 [some (0, 1)] := by kernel_rfl
theorem tz19 : tz Try.prog 19 = AV.agg [AV.npt] := by kernel_rfl
theorem dz19 : dz Try.prog 19 = AV.agg [AV.npt] := by kernel_rfl
theorem eb19 : eb Try.prog 19 = some 8 := by kernel_rfl
theorem tk20 : tk Try.prog 20 = TK.leaf := by kernel_rfl
theorem tk21 : tk Try.prog 21 = TK.int IntKind.i32 := by kernel_rfl
theorem tz21 : tz Try.prog 21 = AV.int IntKind.i32 0 := by kernel_rfl
theorem dz21 : dz Try.prog 21 = AV.int IntKind.i32 0 := by kernel_rfl
theorem eb21 : eb Try.prog 21 = some 4 := by kernel_rfl
theorem eq21 : eqK Try.prog 21 = some [1] := by kernel_rfl
theorem tk22 : tk Try.prog 22 = TK.leaf := by kernel_rfl
theorem tz22 : tz Try.prog 22 = AV.nfn := by kernel_rfl
theorem dz22 : dz Try.prog 22 = AV.nfn := by kernel_rfl
theorem tk23 : tk Try.prog 23 = TK.arr 4 3 1 4 := by kernel_rfl
theorem tz23 : tz Try.prog 23 = AV.agg [AV.int IntKind.i64 0, AV.int IntKind.i64 0, AV.int IntKind.i64 0, AV.int IntKind.i64 0] := by kernel_rfl
theorem dz23 : dz Try.prog 23 = AV.agg [AV.int IntKind.i64 0, AV.int IntKind.i64 0, AV.int IntKind.i64 0, AV.int IntKind.i64 0] := by kernel_rfl
theorem eb23 : eb Try.prog 23 = some 32 := by kernel_rfl
theorem tk24 : tk Try.prog 24 = TK.slice 23 4 := by kernel_rfl
theorem tz24 : tz Try.prog 24 = AV.nls := by kernel_rfl
theorem dz24 : dz Try.prog 24 = AV.sl 4 [] := by kernel_rfl
theorem eb24 : eb Try.prog 24 = some 24 := by kernel_rfl
theorem tk26 : tk Try.prog 26 = TK.leaf := by kernel_rfl
theorem tz26 : tz Try.prog 26 = AV.nfn := by kernel_rfl
theorem dz26 : dz Try.prog 26 = AV.nfn := by kernel_rfl
theorem tk27 : tk Try.prog 27 = TK.leaf := by kernel_rfl
theorem tz27 : tz Try.prog 27 = AV.nfn := by kernel_rfl
theorem dz27 : dz Try.prog 27 = AV.nfn := by kernel_rfl
theorem tk28 : tk Try.prog 28 = TK.slice 39 7 := by kernel_rfl
theorem tz28 : tz Try.prog 28 = AV.nls := by kernel_rfl
theorem dz28 : dz Try.prog 28 = AV.sl 7 [] := by kernel_rfl
theorem eb28 : eb Try.prog 28 = some 24 := by kernel_rfl
theorem tk29 : tk Try.prog 29 = TK.leaf := by kernel_rfl
theorem tz29 : tz Try.prog 29 = AV.npt := by kernel_rfl
theorem dz29 : dz Try.prog 29 = AV.npt := by kernel_rfl
theorem pt29 : ptrT Try.prog 29 = true := by kernel_rfl
theorem tk30 : tk Try.prog 30 = TK.leaf := by kernel_rfl
theorem tz30 : tz Try.prog 30 = AV.nfn := by kernel_rfl
theorem dz30 : dz Try.prog 30 = AV.nfn := by kernel_rfl
theorem tk31 : tk Try.prog 31 = TK.leaf := by kernel_rfl
theorem tz31 : tz Try.prog 31 = AV.npt := by kernel_rfl
theorem dz31 : dz Try.prog 31 = AV.npt := by kernel_rfl
theorem pt31 : ptrT Try.prog 31 = true := by kernel_rfl
theorem tk32 : tk Try.prog 32 = TK.slice 5 1 := by kernel_rfl
theorem tz32 : tz Try.prog 32 = AV.nls := by kernel_rfl
theorem dz32 : dz Try.prog 32 = AV.sl 1 [] := by kernel_rfl
theorem eb32 : eb Try.prog 32 = some 24 := by kernel_rfl
theorem tk33 : tk Try.prog 33 = TK.slice 37 2 := by kernel_rfl
theorem tz33 : tz Try.prog 33 = AV.nls := by kernel_rfl
theorem dz33 : dz Try.prog 33 = AV.sl 2 [] := by kernel_rfl
theorem eb33 : eb Try.prog 33 = some 24 := by kernel_rfl
theorem tk34 : tk Try.prog 34 = TK.struct 2 [some (0, 1), some (1, 1)] := by kernel_rfl
theorem tz34 : tz Try.prog 34 = AV.agg [AV.nls, AV.nls] := by kernel_rfl
theorem dz34 : dz Try.prog 34 = AV.agg [AV.sl 1 [], AV.sl 2 []] := by kernel_rfl
theorem eb34 : eb Try.prog 34 = some 48 := by kernel_rfl
theorem tk35 : tk Try.prog 35 = TK.struct 2 [some (0, 1), some (1, 1)] := by kernel_rfl
theorem tz35 : tz Try.prog 35 = AV.agg [AV.nls, AV.nls] := by kernel_rfl
theorem dz35 : dz Try.prog 35 = AV.agg [AV.sl 1 [], AV.sl 2 []] := by kernel_rfl
theorem eb35 : eb Try.prog 35 = some 48 := by kernel_rfl
theorem tk36 : tk Try.prog 36 = TK.struct 2 [some (0, 1), some (1, 1)] := by kernel_rfl
theorem tz36 : tz Try.prog 36 = AV.agg [AV.int IntKind.i64 0, AV.int IntKind.i64 0] := by kernel_rfl
theorem dz36 : dz Try.prog 36 = AV.agg [AV.int IntKind.i64 0, AV.int IntKind.i64 0] := by kernel_rfl
theorem eb36 : eb Try.prog 36 = some 16 := by kernel_rfl
theorem eq36 : eqK Try.prog 36 = some [1, 1] := by kernel_rfl
theorem tk37 : tk Try.prog 37 = TK.struct 2 [some (0, 1), some (1, 1)] := by kernel_rfl
theorem tz37 : tz Try.prog 37 = AV.agg [AV.int IntKind.i64 0, AV.int IntKind.i64 0] := by kernel_rfl
theorem dz37 : dz Try.prog 37 = AV.agg [AV.int IntKind.i64 0, AV.int IntKind.i64 0] := by kernel_rfl
theorem eb37 : eb Try.prog 37 = some 16 := by kernel_rfl
theorem eq37 : eqK Try.prog 37 = some [1, 1] := by kernel_rfl
theorem tk38 : tk Try.prog 38 = TK.struct 7 [some (0, 1), some (1, 1), some (2, 2), some (4, 1), some (5, 1), some (6, 1)] := by kernel_rfl
theorem tz38 : tz Try.prog 38 = AV.agg [AV.int IntKind.u8 0, AV.int IntKind.u8 0, AV.int IntKind.i64 0, AV.int IntKind.i64 0, AV.int IntKind.i64 0, AV.int IntKind.i64 0, AV.int IntKind.i64 0] := by kernel_rfl
theorem dz38 : dz Try.prog 38 = AV.agg [AV.int IntKind.u8 0, AV.int IntKind.u8 0, AV.int IntKind.i64 0, AV.int IntKind.i64 0, AV.int IntKind.i64 0, AV.int IntKind.i64 0, AV.int IntKind.i64 0] := by kernel_rfl
theorem eb38 : eb Try.prog 38 = some 48 := by kernel_rfl
theorem eq38 : eqK Try.prog 38 = some [1, 1, 1, 1, 1, 1, 1] := by kernel_rfl
theorem tk39 : tk Try.prog 39 = TK.struct 7 [some (0, 1), some (1, 1), some (2, 2), some (4, 1), some (5, 1), some (6, 1)] := by kernel_rfl
theorem tz39 : tz Try.prog 39 = AV.agg [AV.int IntKind.u8 0, AV.int IntKind.u8 0, AV.int IntKind.i64 0, AV.int IntKind.i64 0, AV.int IntKind.i64 0, AV.int IntKind.i64 0, AV.int IntKind.i64 0] := by kernel_rfl
theorem dz39 : dz Try.prog 39 = AV.agg [AV.int IntKind.u8 0, AV.int IntKind.u8 0, AV.int IntKind.i64 0, AV.int IntKind.i64 0, AV.int IntKind.i64 0, AV.int IntKind.i64 0, AV.int IntKind.i64 0] := by kernel_rfl
theorem eb39 : eb Try.prog 39 = some 48 := by kernel_rfl
theorem eq39 : eqK Try.prog 39 = some [1, 1, 1, 1, 1, 1, 1] := by kernel_rfl
theorem tk40 : tk Try.prog 40 = TK.leaf := by kernel_rfl
theorem tz40 : tz Try.prog 40 = AV.nfn := by kernel_rfl
theorem dz40 : dz Try.prog 40 = AV.nfn := by kernel_rfl
theorem tk41 : tk Try.prog 41 = TK.leaf := by kernel_rfl
theorem tz41 : tz Try.prog 41 = AV.nfn := by kernel_rfl
theorem dz41 : dz Try.prog 41 = AV.nfn := by kernel_rfl
theorem tk43 : tk Try.prog 43 = TK.leaf := by kernel_rfl
theorem tz43 : tz Try.prog 43 = AV.nfn := by kernel_rfl
theorem dz43 : dz Try.prog 43 = AV.nfn := by kernel_rfl
theorem tk44 : tk Try.prog 44 = TK.leaf := by kernel_rfl
theorem tz44 : tz Try.prog 44 = AV.nfn := by kernel_rfl
theorem dz44 : dz Try.prog 44 = AV.nfn := by kernel_rfl
theorem tk45 : tk Try.prog 45 = TK.leaf := by kernel_rfl
theorem tz45 : tz Try.prog 45 = AV.nfn := by kernel_rfl
theorem dz45 : dz Try.prog 45 = AV.nfn := by kernel_rfl
theorem tk46 : tk Try.prog 46 = TK.leaf := by kernel_rfl
theorem tz46 : tz Try.prog 46 = AV.nfn := by kernel_rfl
theorem dz46 : dz Try.prog 46 = AV.nfn := by kernel_rfl
theorem tk47 : tk Try.prog 47 = TK.leaf := by kernel_rfl
theorem tz47 : tz Try.prog 47 = AV.nfn := by kernel_rfl
theorem dz47 : dz Try.prog 47 = AV.nfn := by kernel_rfl
theorem tk48 : tk Try.prog 48 = TK.leaf := by kernel_rfl
theorem tz48 : tz Try.prog 48 = AV.nfn := by kernel_rfl
theorem dz48 : dz Try.prog 48 = AV.nfn := by kernel_rfl
theorem tk49 : tk Try.prog 49 = TK.leaf := by kernel_rfl
theorem tz49 : tz Try.prog 49 = AV.nfn := by kernel_rfl
theorem dz49 : dz Try.prog 49 = AV.nfn := by kernel_rfl
theorem tk50 : tk Try.prog 50 = TK.slice 9 1 := by kernel_rfl
theorem tz50 : tz Try.prog 50 = AV.nls := by kernel_rfl
theorem dz50 : dz Try.prog 50 = AV.sl 1 [] := by kernel_rfl
theorem eb50 : eb Try.prog 50 = some 24 := by kernel_rfl
theorem tk51 : tk Try.prog 51 = TK.struct 2 [some (0, 1), some (1, 1)] := by kernel_rfl
theorem tz51 : tz Try.prog 51 = AV.agg [AV.int IntKind.i64 0, AV.nls] := by kernel_rfl
theorem dz51 : dz Try.prog 51 = AV.agg [AV.int IntKind.i64 0, AV.sl 1 []] := by kernel_rfl
theorem eb51 : eb Try.prog 51 = some 32 := by kernel_rfl
theorem tk52 : tk Try.prog 52 = TK.struct 2 [some (0, 1), some (1, 1)] := by kernel_rfl
theorem tz52 : tz Try.prog 52 = AV.agg [AV.int IntKind.i64 0, AV.nls] := by kernel_rfl
theorem dz52 : dz Try.prog 52 = AV.agg [AV.int IntKind.i64 0, AV.sl 1 []] := by kernel_rfl
theorem eb52 : eb Try.prog 52 = some 32 := by kernel_rfl
theorem tk53 : tk Try.prog 53 = TK.leaf := by kernel_rfl
theorem tz53 : tz Try.prog 53 = AV.nfn := by kernel_rfl
theorem dz53 : dz Try.prog 53 = AV.nfn := by kernel_rfl
theorem tk54 : tk Try.prog 54 = TK.leaf := by kernel_rfl
theorem tz54 : tz Try.prog 54 = AV.nfn := by kernel_rfl
theorem dz54 : dz Try.prog 54 = AV.nfn := by kernel_rfl
theorem tk55 : tk Try.prog 55 = TK.leaf := by kernel_rfl
theorem tz55 : tz Try.prog 55 = AV.nfn := by kernel_rfl
theorem dz55 : dz Try.prog 55 = AV.nfn := by kernel_rfl
theorem tk56 : tk Try.prog 56 = TK.leaf := by kernel_rfl
theorem tz56 : tz Try.prog 56 = AV.nfn := by kernel_rfl
theorem dz56 : dz Try.prog 56 = AV.nfn := by kernel_rfl
theorem tk57 : tk Try.prog 57 = TK.slice 4 1 := by kernel_rfl
theorem tz57 : tz Try.prog 57 = AV.nls := by kernel_rfl
theorem dz57 : dz Try.prog 57 = AV.sl 1 [] := by kernel_rfl
theorem eb57 : eb Try.prog 57 = some 24 := by kernel_rfl
theorem tk58 : tk Try.prog 58 = TK.leaf := by kernel_rfl
theorem tz58 : tz Try.prog 58 = AV.npt := by kernel_rfl
theorem dz58 : dz Try.prog 58 = AV.npt := by kernel_rfl
theorem pt58 : ptrT Try.prog 58 = true := by kernel_rfl
theorem tk59 : tk Try.prog 59 = TK.leaf := by kernel_rfl
theorem tz59 : tz Try.prog 59 = AV.nfn := by kernel_rfl
theorem dz59 : dz Try.prog 59 = AV.nfn := by kernel_rfl
theorem tk60 : tk Try.prog 60 = TK.int IntKind.i64 := by kernel_rfl
theorem tz60 : tz Try.prog 60 = AV.int IntKind.i64 0 := by kernel_rfl
theorem dz60 : dz Try.prog 60 = AV.int IntKind.i64 0 := by kernel_rfl
theorem eb60 : eb Try.prog 60 = some 8 := by kernel_rfl
theorem eq60 : eqK Try.prog 60 = some [1] := by kernel_rfl
theorem tk61 : tk Try.prog 61 = TK.leaf := by kernel_rfl
theorem tz61 : tz Try.prog 61 = AV.nfn := by kernel_rfl
theorem dz61 : dz Try.prog 61 = AV.nfn := by kernel_rfl
theorem tk63 : tk Try.prog 63 = TK.leaf := by kernel_rfl
theorem tz63 : tz Try.prog 63 = AV.nfn := by kernel_rfl
theorem dz63 : dz Try.prog 63 = AV.nfn := by kernel_rfl
theorem tk64 : tk Try.prog 64 = TK.leaf := by kernel_rfl
theorem tz64 : tz Try.prog 64 = AV.nfn := by kernel_rfl
theorem dz64 : dz Try.prog 64 = AV.nfn := by kernel_rfl
theorem tk65 : tk Try.prog 65 = TK.leaf := by kernel_rfl
theorem tz65 : tz Try.prog 65 = AV.nfn := by kernel_rfl
theorem dz65 : dz Try.prog 65 = AV.nfn := by kernel_rfl
theorem tk66 : tk Try.prog 66 = TK.slice 72 5 := by kernel_rfl
theorem tz66 : tz Try.prog 66 = AV.nls := by kernel_rfl
theorem dz66 : dz Try.prog 66 = AV.sl 5 [] := by kernel_rfl
theorem eb66 : eb Try.prog 66 = some 24 := by kernel_rfl
theorem tk67 : tk Try.prog 67 = TK.leaf := by kernel_rfl
theorem tz67 : tz Try.prog 67 = AV.npt := by kernel_rfl
theorem dz67 : dz Try.prog 67 = AV.npt := by kernel_rfl
theorem pt67 : ptrT Try.prog 67 = true := by kernel_rfl
theorem tk68 : tk Try.prog 68 = TK.slice 52 2 := by kernel_rfl
theorem tz68 : tz Try.prog 68 = AV.nls := by kernel_rfl
theorem dz68 : dz Try.prog 68 = AV.sl 2 [] := by kernel_rfl
theorem eb68 : eb Try.prog 68 = some 24 := by kernel_rfl
theorem tk69 : tk Try.prog 69 = TK.struct 2 [some (0, 1), some (1, 1)] := by kernel_rfl
theorem tz69 : tz Try.prog 69 = AV.agg [AV.nls, AV.nls] := by kernel_rfl
theorem dz69 : dz Try.prog 69 = AV.agg [AV.sl 1 [], AV.sl 2 []] := by kernel_rfl
theorem eb69 : eb Try.prog 69 = some 48 := by kernel_rfl
theorem tk70 : tk Try.prog 70 = TK.struct 2 [some (0, 1), some (1, 1)] := by kernel_rfl
theorem tz70 : tz Try.prog 70 = AV.agg [AV.nls, AV.nls] := by kernel_rfl
theorem dz70 : dz Try.prog 70 = AV.agg [AV.sl 1 [], AV.sl 2 []] := by kernel_rfl
theorem eb70 : eb Try.prog 70 = some 48 := by kernel_rfl
theorem tk71 : tk Try.prog 71 = TK.struct 5 [some (0, 1), some (1, 1), some (2, 2), some (4, 1)] := by kernel_rfl
theorem tz71 : tz Try.prog 71 = AV.agg [AV.int IntKind.u8 0, AV.int IntKind.u8 0, AV.int IntKind.i64 0, AV.nls, AV.bool false] := by kernel_rfl
theorem dz71 : dz Try.prog 71 = AV.agg [AV.int IntKind.u8 0, AV.int IntKind.u8 0, AV.int IntKind.i64 0, AV.sl 1 [], AV.bool false] := by kernel_rfl
theorem eb71 : eb Try.prog 71 = some 48 := by kernel_rfl
theorem tk72 : tk Try.prog 72 = TK.struct 5 [some (0, 1), some (1, 1), some (2, 2), some (4, 1)] := by kernel_rfl
theorem tz72 : tz Try.prog 72 = AV.agg [AV.int IntKind.u8 0, AV.int IntKind.u8 0, AV.int IntKind.i64 0, AV.nls, AV.bool false] := by kernel_rfl
theorem dz72 : dz Try.prog 72 = AV.agg [AV.int IntKind.u8 0, AV.int IntKind.u8 0, AV.int IntKind.i64 0, AV.sl 1 [], AV.bool false] := by kernel_rfl
theorem eb72 : eb Try.prog 72 = some 48 := by kernel_rfl
theorem tk73 : tk Try.prog 73 = TK.leaf := by kernel_rfl
theorem tz73 : tz Try.prog 73 = AV.nfn := by kernel_rfl
theorem dz73 : dz Try.prog 73 = AV.nfn := by kernel_rfl
theorem tk74 : tk Try.prog 74 = TK.leaf := by kernel_rfl
theorem tz74 : tz Try.prog 74 = AV.nfn := by kernel_rfl
theorem dz74 : dz Try.prog 74 = AV.nfn := by kernel_rfl
theorem tk75 : tk Try.prog 75 = TK.leaf := by kernel_rfl
theorem tz75 : tz Try.prog 75 = AV.nfn := by kernel_rfl
theorem dz75 : dz Try.prog 75 = AV.nfn := by kernel_rfl
theorem tk76 : tk Try.prog 76 = TK.leaf := by kernel_rfl
theorem tz76 : tz Try.prog 76 = AV.nfn := by kernel_rfl
theorem dz76 : dz Try.prog 76 = AV.nfn := by kernel_rfl
theorem tk77 : tk Try.prog 77 = TK.leaf := by kernel_rfl
theorem tz77 : tz Try.prog 77 = AV.nfn := by kernel_rfl
theorem dz77 : dz Try.prog 77 = AV.nfn := by kernel_rfl
theorem tk78 : tk Try.prog 78 = TK.leaf := by kernel_rfl
theorem tz78 : tz Try.prog 78 = AV.nfn := by kernel_rfl
theorem dz78 : dz Try.prog 78 = AV.nfn := by kernel_rfl
theorem tk79 : tk Try.prog 79 = TK.leaf := by kernel_rfl
theorem tz79 : tz Try.prog 79 = AV.nfn := by kernel_rfl
theorem dz79 : dz Try.prog 79 = AV.nfn := by kernel_rfl
theorem tk80 : tk Try.prog 80 = TK.leaf := by kernel_rfl
theorem tz80 : tz Try.prog 80 = AV.nfn := by kernel_rfl
theorem dz80 : dz Try.prog 80 = AV.nfn := by kernel_rfl
theorem tk81 : tk Try.prog 81 = TK.leaf := by kernel_rfl
theorem mt81 : mapT Try.prog 81 = some (some IntKind.u8, 37) := by kernel_rfl
theorem tk82 : tk Try.prog 82 = TK.struct 1 [some (0, 1)] := by kernel_rfl
theorem tz82 : tz Try.prog 82 = AV.agg [AV.top] := by kernel_rfl
theorem dz82 : dz Try.prog 82 = AV.agg [AV.top] := by kernel_rfl
theorem eb82 : eb Try.prog 82 = some 8 := by kernel_rfl
theorem tk83 : tk Try.prog 83 = TK.struct 1 [some (0, 1)] := by kernel_rfl
theorem tz83 : tz Try.prog 83 = AV.agg [AV.top] := by kernel_rfl
theorem dz83 : dz Try.prog 83 = AV.agg [AV.top] := by kernel_rfl
theorem eb83 : eb Try.prog 83 = some 8 := by kernel_rfl
theorem tk84 : tk Try.prog 84 = TK.leaf := by kernel_rfl
theorem tz84 : tz Try.prog 84 = AV.nfn := by kernel_rfl
theorem dz84 : dz Try.prog 84 = AV.nfn := by kernel_rfl
theorem tk85 : tk Try.prog 85 = TK.leaf := by kernel_rfl
theorem tz85 : tz Try.prog 85 = AV.nfn := by kernel_rfl
theorem dz85 : dz Try.prog 85 = AV.nfn := by kernel_rfl
theorem tk86 : tk Try.prog 86 = TK.leaf := by kernel_rfl
theorem tz86 : tz Try.prog 86 = AV.nfn := by kernel_rfl
theorem dz86 : dz Try.prog 86 = AV.nfn := by kernel_rfl
theorem tk87 : tk Try.prog 87 = TK.leaf := by kernel_rfl
theorem tz87 : tz Try.prog 87 = AV.nfn := by kernel_rfl
theorem dz87 : dz Try.prog 87 = AV.nfn := by kernel_rfl
theorem tk88 : tk Try.prog 88 = TK.leaf := by kernel_rfl
theorem tz88 : tz Try.prog 88 = AV.nfn := by kernel_rfl
theorem dz88 : dz Try.prog 88 = AV.nfn := by kernel_rfl
theorem tk89 : tk Try.prog 89 = TK.leaf := by kernel_rfl
theorem tz89 : tz Try.prog 89 = AV.nfn := by kernel_rfl
theorem dz89 : dz Try.prog 89 = AV.nfn := by kernel_rfl
theorem tk90 : tk Try.prog 90 = TK.leaf := by kernel_rfl
theorem mt90 : mapT Try.prog 90 = some (some IntKind.u8, 52) := by kernel_rfl
theorem tk91 : tk Try.prog 91 = TK.struct 1 [some (0, 1)] := by kernel_rfl
theorem tz91 : tz Try.prog 91 = AV.agg [AV.top] := by kernel_rfl
theorem dz91 : dz Try.prog 91 = AV.agg [AV.top] := by kernel_rfl
theorem eb91 : eb Try.prog 91 = some 8 := by kernel_rfl
theorem tk92 : tk Try.prog 92 = TK.struct 1 [some (0, 1)] := by kernel_rfl
theorem tz92 : tz Try.prog 92 = AV.agg [AV.top] := by kernel_rfl
theorem dz92 : dz Try.prog 92 = AV.agg [AV.top] := by kernel_rfl
theorem eb92 : eb Try.prog 92 = some 8 := by kernel_rfl
theorem tk93 : tk Try.prog 93 = TK.leaf := by kernel_rfl
theorem tz93 : tz Try.prog 93 = AV.nfn := by kernel_rfl
theorem dz93 : dz Try.prog 93 = AV.nfn := by kernel_rfl
theorem tk94 : tk Try.prog 94 = TK.leaf := by kernel_rfl
theorem tz94 : tz Try.prog 94 = AV.nfn := by kernel_rfl
theorem dz94 : dz Try.prog 94 = AV.nfn := by kernel_rfl
theorem tk95 : tk Try.prog 95 = TK.leaf := by kernel_rfl
theorem tz95 : tz Try.prog 95 = AV.nfn := by kernel_rfl
theorem dz95 : dz Try.prog 95 = AV.nfn := by kernel_rfl
theorem tk97 : tk Try.prog 97 = TK.leaf := by kernel_rfl
theorem tz97 : tz Try.prog 97 = AV.nfn := by kernel_rfl
theorem dz97 : dz Try.prog 97 = AV.nfn := by kernel_rfl
theorem tk98 : tk Try.prog 98 = TK.leaf := by kernel_rfl
theorem tz98 : tz Try.prog 98 = AV.nfn := by kernel_rfl
theorem dz98 : dz Try.prog 98 = AV.nfn := by kernel_rfl
theorem tk99 : tk Try.prog 99 = TK.leaf := by kernel_rfl
theorem tz99 : tz Try.prog 99 = AV.nfn := by kernel_rfl
theorem dz99 : dz Try.prog 99 = AV.nfn := by kernel_rfl
theorem tk100 : tk Try.prog 100 = TK.leaf := by kernel_rfl
theorem tz100 : tz Try.prog 100 = AV.nfn := by kernel_rfl
theorem dz100 : dz Try.prog 100 = AV.nfn := by kernel_rfl
theorem tk101 : tk Try.prog 101 = TK.leaf := by kernel_rfl
theorem tz101 : tz Try.prog 101 = AV.nfn := by kernel_rfl
theorem dz101 : dz Try.prog 101 = AV.nfn := by kernel_rfl
theorem tk102 : tk Try.prog 102 = TK.slice 50 1 := by kernel_rfl
theorem tz102 : tz Try.prog 102 = AV.nls := by kernel_rfl
theorem dz102 : dz Try.prog 102 = AV.sl 1 [] := by kernel_rfl
theorem eb102 : eb Try.prog 102 = some 24 := by kernel_rfl
theorem tk103 : tk Try.prog 103 = TK.leaf := by kernel_rfl
theorem tz103 : tz Try.prog 103 = AV.nfn := by kernel_rfl
theorem dz103 : dz Try.prog 103 = AV.nfn := by kernel_rfl
theorem tk104 : tk Try.prog 104 = TK.leaf := by kernel_rfl
theorem tz104 : tz Try.prog 104 = AV.nfn := by kernel_rfl
theorem dz104 : dz Try.prog 104 = AV.nfn := by kernel_rfl
theorem tk105 : tk Try.prog 105 = TK.leaf := by kernel_rfl
theorem tz105 : tz Try.prog 105 = AV.nfn := by kernel_rfl
theorem dz105 : dz Try.prog 105 = AV.nfn := by kernel_rfl
theorem tk106 : tk Try.prog 106 = TK.leaf := by kernel_rfl
theorem tz106 : tz Try.prog 106 = AV.nfn := by kernel_rfl
theorem dz106 : dz Try.prog 106 = AV.nfn := by kernel_rfl
theorem tk107 : tk Try.prog 107 = TK.leaf := by kernel_rfl
theorem tz107 : tz Try.prog 107 = AV.nfn := by kernel_rfl
theorem dz107 : dz Try.prog 107 = AV.nfn := by kernel_rfl
theorem tk108 : tk Try.prog 108 = TK.int IntKind.u64 := by kernel_rfl
theorem tz108 : tz Try.prog 108 = AV.int IntKind.u64 0 := by kernel_rfl
theorem dz108 : dz Try.prog 108 = AV.int IntKind.u64 0 := by kernel_rfl
theorem eb108 : eb Try.prog 108 = some 8 := by kernel_rfl
theorem eq108 : eqK Try.prog 108 = some [1] := by kernel_rfl
theorem tk109 : tk Try.prog 109 = TK.leaf := by kernel_rfl
theorem tz109 : tz Try.prog 109 = AV.nfn := by kernel_rfl
theorem dz109 : dz Try.prog 109 = AV.nfn := by kernel_rfl
theorem tk110 : tk Try.prog 110 = TK.int IntKind.i64 := by kernel_rfl
theorem tz110 : tz Try.prog 110 = AV.int IntKind.i64 0 := by kernel_rfl
theorem dz110 : dz Try.prog 110 = AV.int IntKind.i64 0 := by kernel_rfl
theorem eb110 : eb Try.prog 110 = some 8 := by kernel_rfl
theorem eq110 : eqK Try.prog 110 = some [1] := by kernel_rfl
theorem tk112 : tk Try.prog 112 = TK.leaf := by kernel_rfl
theorem tz112 : tz Try.prog 112 = AV.nfn := by kernel_rfl
theorem dz112 : dz Try.prog 112 = AV.nfn := by kernel_rfl
theorem tk113 : tk Try.prog 113 = TK.leaf := by kernel_rfl
theorem tz113 : tz Try.prog 113 = AV.nfn := by kernel_rfl
theorem dz113 : dz Try.prog 113 = AV.nfn := by kernel_rfl
theorem tk114 : tk Try.prog 114 = TK.leaf := by kernel_rfl
theorem tz114 : tz Try.prog 114 = AV.nfn := by kernel_rfl
theorem dz114 : dz Try.prog 114 = AV.nfn := by kernel_rfl
theorem tk115 : tk Try.prog 115 = TK.leaf := by kernel_rfl
theorem tz115 : tz Try.prog 115 = AV.nfn := by kernel_rfl
theorem dz115 : dz Try.prog 115 = AV.nfn := by kernel_rfl
theorem tk116 : tk Try.prog 116 = TK.leaf := by kernel_rfl
theorem tz116 : tz Try.prog 116 = AV.nfn := by kernel_rfl
theorem dz116 : dz Try.prog 116 = AV.nfn := by kernel_rfl
theorem tk117 : tk Try.prog 117 = TK.leaf := by kernel_rfl
theorem tz117 : tz Try.prog 117 = AV.nfn := by kernel_rfl
theorem dz117 : dz Try.prog 117 = AV.nfn := by kernel_rfl
theorem tk118 : tk Try.prog 118 = TK.int IntKind.u32 := by kernel_rfl
theorem tz118 : tz Try.prog 118 = AV.int IntKind.u32 0 := by kernel_rfl
theorem dz118 : dz Try.prog 118 = AV.int IntKind.u32 0 := by kernel_rfl
theorem eb118 : eb Try.prog 118 = some 4 := by kernel_rfl
theorem eq118 : eqK Try.prog 118 = some [1] := by kernel_rfl
theorem tk119 : tk Try.prog 119 = TK.leaf := by kernel_rfl
theorem tz119 : tz Try.prog 119 = AV.nfn := by kernel_rfl
theorem dz119 : dz Try.prog 119 = AV.nfn := by kernel_rfl
theorem tk120 : tk Try.prog 120 = TK.int IntKind.u64 := by kernel_rfl
theorem tz120 : tz Try.prog 120 = AV.int IntKind.u64 0 := by kernel_rfl
theorem dz120 : dz Try.prog 120 = AV.int IntKind.u64 0 := by kernel_rfl
theorem eb120 : eb Try.prog 120 = some 8 := by kernel_rfl
theorem eq120 : eqK Try.prog 120 = some [1] := by kernel_rfl
theorem tk121 : tk Try.prog 121 = TK.int IntKind.u64 := by kernel_rfl
theorem tz121 : tz Try.prog 121 = AV.int IntKind.u64 0 := by kernel_rfl
theorem dz121 : dz Try.prog 121 = AV.int IntKind.u64 0 := by kernel_rfl
theorem eb121 : eb Try.prog 121 = some 8 := by kernel_rfl
theorem eq121 : eqK Try.prog 121 = some [1] := by kernel_rfl
theorem tk122 : tk Try.prog 122 = TK.leaf := by kernel_rfl
theorem tz122 : tz Try.prog 122 = AV.nfn := by kernel_rfl
theorem dz122 : dz Try.prog 122 = AV.nfn := by kernel_rfl
theorem tk123 : tk Try.prog 123 = TK.leaf := by kernel_rfl
theorem tz123 : tz Try.prog 123 = AV.nfn := by kernel_rfl
theorem dz123 : dz Try.prog 123 = AV.nfn := by kernel_rfl
theorem tk124 : tk Try.prog 124 = TK.leaf := by kernel_rfl
theorem tz124 : tz Try.prog 124 = AV.nfn := by kernel_rfl
theorem dz124 : dz Try.prog 124 = AV.nfn := by kernel_rfl
theorem tk125 : tk Try.prog 125 = TK.leaf := by kernel_rfl
theorem tz125 : tz Try.prog 125 = AV.npt := by kernel_rfl
theorem dz125 : dz Try.prog 125 = AV.npt := by kernel_rfl
theorem pt125 : ptrT Try.prog 125 = true := by kernel_rfl
theorem tk126 : tk Try.prog 126 = TK.leaf := by kernel_rfl
theorem tz126 : tz Try.prog 126 = AV.nfn := by kernel_rfl
theorem dz126 : dz Try.prog 126 = AV.nfn := by kernel_rfl
theorem tk127 : tk Try.prog 127 = TK.leaf := by kernel_rfl
theorem tz127 : tz Try.prog 127 = AV.npt := by kernel_rfl
theorem dz127 : dz Try.prog 127 = AV.npt := by kernel_rfl
theorem pt127 : ptrT Try.prog 127 = true := by kernel_rfl
theorem tk129 : tk Try.prog 129 = TK.leaf := by kernel_rfl
theorem tz129 : tz Try.prog 129 = AV.nfn := by kernel_rfl
theorem dz129 : dz Try.prog 129 = AV.nfn := by kernel_rfl
theorem tk130 : tk Try.prog 130 = TK.leaf := by kernel_rfl
theorem tz130 : tz Try.prog 130 = AV.nfn := by kernel_rfl
theorem dz130 : dz Try.prog 130 = AV.nfn := by kernel_rfl
theorem tk131 : tk Try.prog 131 = TK.struct 4 [some (0, 1), some (1, 1), some (2, 1), some (3, 1)] := by kernel_rfl
theorem tz131 : tz Try.prog 131 = AV.agg [AV.npt, AV.npt, AV.npt, AV.str []] := by kernel_rfl
theorem dz131 : dz Try.prog 131 = AV.agg [AV.npt, AV.npt, AV.npt, AV.str []] := by kernel_rfl
theorem eb131 : eb Try.prog 131 = some 40 := by kernel_rfl
theorem tk132 : tk Try.prog 132 = TK.struct 4 [some (0, 1), some (1, 1), some (2, 1), some (3, 1)] := by kernel_rfl
theorem tz132 : tz Try.prog 132 = AV.agg [AV.npt, AV.npt, AV.npt, AV.str []] := by kernel_rfl
theorem dz132 : dz Try.prog 132 = AV.agg [AV.npt, AV.npt, AV.npt, AV.str []] := by kernel_rfl
theorem eb132 : eb Try.prog 132 = some 40 := by kernel_rfl
theorem tk133 : tk Try.prog 133 = TK.arr 0 16 1 0 := by kernel_rfl
theorem tz133 : tz Try.prog 133 = AV.agg [] := by kernel_rfl
theorem dz133 : dz Try.prog 133 = AV.agg [] := by kernel_rfl
theorem tk134 : tk Try.prog 134 = TK.struct 0 [none] := by kernel_rfl
theorem tz134 : tz Try.prog 134 = AV.agg [] := by kernel_rfl
theorem dz134 : dz Try.prog 134 = AV.agg [] := by kernel_rfl
theorem tk135 : tk Try.prog 135 = TK.struct 0 [none] := by kernel_rfl
theorem tz135 : tz Try.prog 135 = AV.agg [] := by kernel_rfl
theorem dz135 : dz Try.prog 135 = AV.agg [] := by kernel_rfl
theorem tk136 : tk Try.prog 136 = TK.leaf := by kernel_rfl
theorem tz136 : tz Try.prog 136 = AV.nfn := by kernel_rfl
theorem dz136 : dz Try.prog 136 = AV.nfn := by kernel_rfl
theorem tk137 : tk Try.prog 137 = TK.int IntKind.u8 := by kernel_rfl
theorem tz137 : tz Try.prog 137 = AV.int IntKind.u8 0 := by kernel_rfl
theorem dz137 : dz Try.prog 137 = AV.int IntKind.u8 0 := by kernel_rfl
theorem eb137 : eb Try.prog 137 = some 1 := by kernel_rfl
theorem eq137 : eqK Try.prog 137 = some [1] := by kernel_rfl
theorem tk138 : tk Try.prog 138 = TK.int IntKind.u8 := by kernel_rfl
theorem tz138 : tz Try.prog 138 = AV.int IntKind.u8 0 := by kernel_rfl
theorem dz138 : dz Try.prog 138 = AV.int IntKind.u8 0 := by kernel_rfl
theorem eb138 : eb Try.prog 138 = some 1 := by kernel_rfl
theorem eq138 : eqK Try.prog 138 = some [1] := by kernel_rfl
theorem tk139 : tk Try.prog 139 = TK.leaf := by kernel_rfl
theorem tz139 : tz Try.prog 139 = AV.nfn := by kernel_rfl
theorem dz139 : dz Try.prog 139 = AV.nfn := by kernel_rfl
theorem tk140 : tk Try.prog 140 = TK.leaf := by kernel_rfl
theorem tz140 : tz Try.prog 140 = AV.npt := by kernel_rfl
theorem dz140 : dz Try.prog 140 = AV.npt := by kernel_rfl
theorem pt140 : ptrT Try.prog 140 = true := by kernel_rfl
theorem tk141 : tk Try.prog 141 = TK.int IntKind.i32 := by kernel_rfl
theorem tz141 : tz Try.prog 141 = AV.int IntKind.i32 0 := by kernel_rfl
theorem dz141 : dz Try.prog 141 = AV.int IntKind.i32 0 := by kernel_rfl
theorem eb141 : eb Try.prog 141 = some 4 := by kernel_rfl
theorem eq141 : eqK Try.prog 141 = some [1] := by kernel_rfl
theorem tk142 : tk Try.prog 142 = TK.int IntKind.i32 := by kernel_rfl
theorem tz142 : tz Try.prog 142 = AV.int IntKind.i32 0 := by kernel_rfl
theorem dz142 : dz Try.prog 142 = AV.int IntKind.i32 0 := by kernel_rfl
theorem eb142 : eb Try.prog 142 = some 4 := by kernel_rfl
theorem eq142 : eqK Try.prog 142 = some [1] := by kernel_rfl
theorem tk143 : tk Try.prog 143 = TK.struct 11 [some (0, 1), some (1, 1), some (2, 1), some (3, 1), some (4, 1), some (5, 1), some (6, 1), some (7, 1), some (8, 1), some (9, 1), some (10, 1)] := by kernel_rfl
theorem tz143 : tz Try.prog 143 = AV.agg [AV.int IntKind.u64 0, AV.int IntKind.u64 0, AV.int IntKind.u32 0, AV.int IntKind.u8 0, AV.int IntKind.u8 0, AV.int IntKind.u8 0, AV.int IntKind.u8 0, AV.nfn, AV.npt, AV.int IntKind.i32 0, AV.int IntKind.i32 0] := by kernel_rfl
theorem dz143 : dz Try.prog 143 = AV.agg [AV.int IntKind.u64 0, AV.int IntKind.u64 0, AV.int IntKind.u32 0, AV.int IntKind.u8 0, AV.int IntKind.u8 0, AV.int IntKind.u8 0, AV.int IntKind.u8 0, AV.nfn, AV.npt, AV.int IntKind.i32 0, AV.int IntKind.i32 0] := by kernel_rfl
theorem eb143 : eb Try.prog 143 = some 48 := by kernel_rfl
theorem tk144 : tk Try.prog 144 = TK.struct 11 [some (0, 1), some (1, 1), some (2, 1), some (3, 1), some (4, 1), some (5, 1), some (6, 1), some (7, 1), some (8, 1), some (9, 1), some (10, 1)] := by kernel_rfl
theorem tz144 : tz Try.prog 144 = AV.agg [AV.int IntKind.u64 0, AV.int IntKind.u64 0, AV.int IntKind.u32 0, AV.int IntKind.u8 0, AV.int IntKind.u8 0, AV.int IntKind.u8 0, AV.int IntKind.u8 0, AV.nfn, AV.npt, AV.int IntKind.i32 0, AV.int IntKind.i32 0] := by kernel_rfl
theorem dz144 : dz Try.prog 144 = AV.agg [AV.int IntKind.u64 0, AV.int IntKind.u64 0, AV.int IntKind.u32 0, AV.int IntKind.u8 0, AV.int IntKind.u8 0, AV.int IntKind.u8 0, AV.int IntKind.u8 0, AV.nfn, AV.npt, AV.int IntKind.i32 0, AV.int IntKind.i32 0] := by kernel_rfl
theorem eb144 : eb Try.prog 144 = some 48 := by kernel_rfl
end Go.Pg
namespace Go.Pg
open Go Go.Proofs

theorem eq_of_takes {a b : List (List UInt8)} (h : a.length = b.length) (ht : a.take a.length = b.take a.length) : a = b := by
  rw [List.take_length] at ht
  rw [h, List.take_length] at ht
  exact ht

theorem take_succ_eq {a b : List (List UInt8)} {i : Nat} (h : a.take i = b.take i) (ha : i < a.length) (hb : i < b.length) (he : a.getD i [] = b.getD i []) : a.take (i + 1) = b.take (i + 1) := by
  simp only [List.getD_eq_getElem?_getD, List.getElem?_eq_getElem ha, List.getElem?_eq_getElem hb, Option.getD_some] at he
  rw [List.take_succ_eq_append_getElem ha, List.take_succ_eq_append_getElem hb, h, he]

theorem calls_Strings (a b : List (List UInt8)) (ha : a.length ≤ 140737488355328) (hb : b.length ≤ 140737488355328) :
    CallsR Try.prog 36 [.sl 1 (a.map .str), .sl 1 (b.map .str)] [] (.bool (a == b)) [] := by
  refine callsR_of (mrg := true) (dyn := []) (CtrOK.nil _) mixed Try.func36 rfl (by simp [Try.ntmps36]) (by kernel_rfl) ?_
  rw [show Try.f36.results.toList = [.tmp 4] from by kernel_rfl]
  simp (maxSteps := 4000000) only [↓wpA_H, ↓wpH_skip, ↓wpH_ret, ↓wpH_seq, ↓wpH_cond, ↓wpH_block, ↓wpH_loop, ↓wpH_region, iselH_if, bselH_false, runH_nil, runH_cons, gw, gselH_plain, cselH_bool, ↓chk, justK, ↓oneK, ↓pureK, envOf, ↓thenA_normal, ↓thenA_ret, ↓stepEv, opnd, Pg.look, binK, intOp, Bool.false_eq_true, implies_true, true_and, and_true, valV, heapV, footV, binV, intV, alives, closeQ_nil, diagQ_zero, ofV, ofLeaf, retA, resK, tupA, subA, subQ, ptrsE, frzO, subF, subG, pickOf, frzE, frzC, frz0, frzH, Pg.freeze, List.foldl_nil, subOs, subEv, subV_succ, subM, slen, Option.getD_some, reduceCtorEq, Nat.reduceEqDiff, List.append_nil, List.length_nil, Nat.zero_add, ite_true, ite_false, Option.some.injEq, AV.int.injEq, and_self, exists_eq_left', pickOK_nil, List.length_map, List.contains_nil, regH_none, isNext, nextF, nextG, selC_false, tk50]
  refine ⟨fun h => ?_, fun h => ?_⟩
  · symm
    rw [beq_eq_false_iff_ne]
    intro e
    subst e
    simp at h
  have hlen : a.length = b.length := by
    simp at h
    omega
  refine loopH_intro (α := Nat) (fun i => ([(0, .sl 1 (a.map .str)), (1, .sl 1 (b.map .str)), (4, .bool false), (5, .int .i64 i)], [])) (fun i => i ≤ a.length ∧ a.take i = b.take i) (fun i => a.length - i) 0 ?_ ?_ ?_
  · simp
  · simp (maxSteps := 4000000) only [Pg.look, alives, closeQ_nil, diagQ_zero, subA, subQ, ptrsE, frzO, subF, subG, pickOf, frzE, frzC, frz0, frzH, Pg.freeze, List.foldl_nil, subOs, subEv, subV_succ, subM, reduceCtorEq, Nat.reduceEqDiff, List.append_nil, ite_true, ite_false, and_self, pickOK_nil, Int.cast_ofNat_Int]
    all_goals simp
  · intro i hi
    simp (maxSteps := 4000000) only [↓wpA_H, ↓wpH_skip, ↓wpH_ret, ↓wpH_exit, ↓wpH_seq, ↓wpH_cond, ↓wpH_block, ↓wpH_region, iselH_if, bselH_false, runH_nil, runH_cons, gw, gselH_plain, cselH_bool, ↓chk, justK, noW, ↓oneK, ↓pureK, ↓heapK, ↓thenA_normal, ↓thenA_ret, ↓thenA_exit, ↓blockA_normal, ↓blockA_ret, ↓blockA_exit, ↓stepEv, opnd, Pg.look, binK, intOp, strOp, Bool.false_eq_true, implies_true, true_and, and_true, valV, heapV, footV, binV, intV, strV, alives, closeQ_nil, diagQ_zero, ofV, ofLeaf, retA, resK, tupA, subA, subQ, ptrsE, frzO, subF, subG, pickOf, frzE, frzC, frz0, frzH, Pg.freeze, List.foldl_nil, subOs, subEv, subV_succ, subM, slen, ldCells, AV.cells, TK.cells, List.getElem?_cons_zero, Option.getD_some, reduceCtorEq, Nat.reduceEqDiff, List.append_nil, List.length_nil, ite_true, ite_false, Option.some.injEq, AV.int.injEq, decide_eq_true_eq, decide_eq_false_iff_not, Int.not_lt, and_self, Bool.not_eq_true', exists_eq_left', pickOK_nil, List.length_map, List.contains_nil, getD_str, Int.toNat_natCast, regH_none, isNext, nextF, nextG, selC_true, selC_false, pureC, tk9, dz9, tk50]
    refine ⟨fun h1 => ⟨⟨by omega, by omega⟩, ⟨by omega, by omega⟩, fun h2 => ?_, fun h2 => ⟨i + 1, ⟨by omega, take_succ_eq hi.2 (by omega) (by omega) (by simpa using h2)⟩, by omega, by rw [wrap64 (by omega) (by omega)]; omega⟩⟩, fun h1 => ?_⟩
    · symm
      rw [beq_eq_false_iff_ne]
      intro e
      subst e
      simp at h2
    · symm
      rw [beq_iff_eq]
      have : i = a.length := by omega
      subst this
      exact eq_of_takes hlen hi.2

def kStrings : C1 := C1.by [.sl 1 [], .sl 1 []] (lCons cStrs (lOne cStrs)) (fun d => d.1.length ≤ 140737488355328 ∧ d.2.length ≤ 140737488355328) (fun d => .bool (d.1 == d.2)) (fun _ => [])
theorem ok_Strings : C1OK Try.prog 36 kStrings :=
  C1OK.by (by kernel_rfl) (fun d h => calls_Strings d.1 d.2 h.1 h.2) (fun _ => rfl) (fun _ => rfl)

end Go.Pg
namespace Go.Pg
open Go Go.Proofs

theorem subX_one {H : AH} {F : List Nat} {pick : List (Option Nat)} {x y : AV} (h : subL (subV H F pick 8) x.cells y.cells) : subX H F pick [x] [y] := .inr ⟨h, trivial⟩

def cPos : Cd (Int × Int) := cAgg (lCons (cInt .i64) (lOne (cInt .i64)))
theorem cPos_enc (p : Int × Int) : cPos.enc p = .agg [.int .i64 p.1, .int .i64 p.2] := rfl
theorem cPos_dec (a b : Int) : cPos.dec (.agg [.int .i64 a, .int .i64 b]) = some (a, b) := by simp [cPos, cAgg, lCons, lOne, cInt, dec2]
theorem cPos_ed (p : Int × Int) : cPos.dec (cPos.enc p) = some p := by obtain ⟨a, b⟩ := p; exact cPos_dec a b
theorem cByte_ed (b : UInt8) : cByte.dec (cByte.enc b) = some b := cByte_dec b
theorem setE_pos (k : UInt8) (a b : Int) (l : List (UInt8 × (Int × Int))) : setE (.int .u8 k.toNat) (.agg [.int .i64 a, .int .i64 b]) (encE cByte cPos l) = encE cByte cPos (upd k (a, b) l) := setE_byte cPos k (a, b) l
theorem findD_pos (k : UInt8) (l : List (UInt8 × (Int × Int))) : ((look1 k l).map cPos.enc).getD (.agg [.int .i64 0, .int .i64 0]) = .agg [.int .i64 ((look1 k l).getD (0, 0)).1, .int .i64 ((look1 k l).getD (0, 0)).2] := by
  cases look1 k l <;> rfl
theorem isSome_pos (k : UInt8) (l : List (UInt8 × (Int × Int))) : ((look1 k l).map cPos.enc).isSome = (look1 k l).isSome := by
  cases look1 k l <;> rfl
theorem decE_pos (l : List (UInt8 × (Int × Int))) : decE cByte cPos (encE cByte cPos l) = some l := decE_enc cByte cPos cByte_ed cPos_ed l

abbrev Mks := List (UInt8 × (Int × Int))
def hMarks : HC (Mks × Unit) := hPtr 83 1 (hCons (hMp cByte cPos) hNil)
abbrev mkH (l : Mks) : AH := [.arr 83 1 [.agg [.mp 1]], .mp (encE cByte cPos l)]

set_option maxHeartbeats 4000000 in
theorem calls_New : CallsR Try.prog 18 [] [] (.ptr 0 1 1 0 0) (mkH []) := by
  refine callsR_of (mrg := true) (dyn := []) (CtrOK.nil _) mixed Try.func18 rfl (by simp [Try.ntmps18]) (by kernel_rfl) ?_
  rw [show Try.f18.results.toList = [.tmp 0] from by kernel_rfl]
  simp (maxSteps := 4000000) only [↓wpA_H, ↓wpH_ret, ↓wpH_seq, ↓wpH_region, bselH_false, runH_nil, runH_cons, gw, gselH_plain, ↓chk, justK, noW, ↓oneK, ↓pureK, ↓heapK, envOf, ↓thenA_normal, ↓stepEv, opnd, Pg.look, Bool.and_true, Bool.false_eq_true, implies_true, true_and, and_true, valV, heapV, footV, alives, aliveO, nxtQ, hdS, pairsA, frzA, closeQ_nil, closeQ_succ, diagQ_zero, ofV, ofLeaf, retA, resK, tupA, subA, subQ, ptrsE, pairsO, frzO, subF, subG, pickOf, assocN, pairsE, pairsC, pairsL, pairs0, frzE, frzC, frzL, frz0, frzH, Pg.freeze, List.foldl_nil, subOs, subO, subEv, subV_succ, subM, AV.cells, AV.definite, AV.pureLeaf, AV.pureB, lay, buildL, List.getElem?_cons_succ, List.getElem?_cons_zero, Option.getD_some, reduceCtorEq, Nat.reduceEqDiff, List.nil_append, List.append_nil, List.cons_append, List.length_cons, List.length_nil, List.map_cons, List.map_nil, Nat.zero_add, ite_true, ite_false, Option.some.injEq, Option.isSome_some, AV.agg.injEq, List.all_cons, List.all_nil, Bool.and_self, and_self, exists_eq_left', List.contains_nil, List.drop_succ_cons, List.take_zero, Nat.le_refl, Nat.lt_irrefl, List.drop_nil, Nat.not_lt_zero, regH_none, isNext, nextF, nextG, selC_false, encE_nil, ↓mapK, tk83, tz83]
  refine ⟨by decide, subX_one ?_⟩
  simp (maxSteps := 4000000) only [subV_succ, subM, subL, AV.cells, List.getElem?_cons_succ, List.getElem?_cons_zero, and_self]
def kNew : C1 := C1.mby hNil (fun _ => True) (fun _ => .ptr 0 1 1 0 0) (fun _ => mkH [])
theorem ok_New : C1OK Try.prog 18 kNew := C1OK.mby (by kernel_rfl) (fun _ _ => calls_New) (fun _ _ => Nat.zero_le _)

def nameOk (b : UInt8) : Bool := b == 96 || (decide (97 ≤ b.toNat) && decide (b.toNat ≤ 122))

theorem nameOk_eq (b : UInt8) : ((b.toNat : Int) != 96 && (decide ((b.toNat : Int) < 97) || decide ((b.toNat : Int) > 122))) = !nameOk b := by
  have h1 : ((b.toNat : Int) != 96) = !(b == 96) := by
    rw [Bool.eq_iff_iff]
    simp only [bne_iff_ne, ne_eq, Bool.not_eq_true', beq_eq_false_iff_ne]
    constructor
    · intro h e; subst e; exact h rfl
    · intro h e; exact h (UInt8.toNat_inj.1 (by have : b.toNat = 96 := by omega
                                                rw [this]; rfl))
  have h2 : decide ((b.toNat : Int) < 97) = !decide (97 ≤ b.toNat) := by rw [Bool.eq_iff_iff]; simp; omega
  have h3 : decide ((b.toNat : Int) > 122) = !decide (b.toNat ≤ 122) := by rw [Bool.eq_iff_iff]; simp; omega
  rw [h1, h2, h3, nameOk]
  cases (b == 96) <;> cases decide (97 ≤ b.toNat) <;> cases decide (b.toNat ≤ 122) <;> rfl

set_option maxHeartbeats 4000000 in
theorem calls_Set (l : Mks) (b : UInt8) (p : Int × Int) : CallsR Try.prog 19 [.ptr 0 1 1 0 0, .int .u8 b.toNat, .agg [.int .i64 p.1, .int .i64 p.2]] (mkH l)
    (.bool (nameOk b)) (mkH (if nameOk b = true then upd b p l else l)) := by
  refine callsR_of (mrg := true) (dyn := []) (CtrOK.nil _) mixed Try.func19 rfl (by simp [Try.ntmps19]) (by kernel_rfl) ?_
  rw [show Try.f19.results.toList = [.tmp 6] from by kernel_rfl]
  simp (maxSteps := 4000000) only [↓wpA_H, ↓wpH_skip, ↓wpH_ret, ↓wpH_seq, ↓wpH_cond, ↓wpH_region, iselH_if, bselH_false, runH_nil, runH_cons, gw, gselH_plain, gselH_if, kselH_0, kselH_1, cselH_bool, gkind, ↓chk, pickO, justK, noW, ↓oneK, ↓pureK, ↓heapK, envOf, ↓thenA_normal, ↓thenA_ret, ↓stepEv, opnd, Pg.look, binK, intOp, dstOf, Bool.and_true, Bool.false_eq_true, implies_true, imp_self, true_and, and_true, pickC, pickV, unc, gof, mux, mergeK, condsL, valV, heapV, footV, binV, intV, alives, aliveO, nxtQ, hdS, pairsA, frzA, closeQ_nil, closeQ_succ, diagQ_zero, diagQ_succ, Nat.reduceAdd, mergeable, look_stripE, ofV, ofLeaf, sameK, retA, resK, tupA, subA, subQ, ptrsE, pairsO, frzO, subF, subG, pickOf, assocN, pairsE, pairsC, pairsL, pairs0, frzE, frzC, frzL, frz0, frzH, Pg.freeze, List.foldl_nil, subOs, subO, subEv, subV_succ, subM, ldCells, objAt, resL, res8_eq, res_succ, resM, AV.cells, TK.cells, AV.definite, AV.pureLeaf, AV.pureB, Op.operands, List.getElem?_toArray, List.getElem?_cons_succ, List.getElem?_cons_zero, Option.bind_some, Option.getD_some, reduceCtorEq, Nat.reduceEqDiff, Nat.reduceAdd, Nat.reduceLT, List.nil_append, List.append_nil, List.cons_append, List.length_cons, List.length_nil, List.set_cons_zero, List.set_cons_succ, Nat.zero_add, ite_true, ite_false, Option.some.injEq, Bool.if_false_right, Bool.if_true_left, Bool.decide_eq_true, decide_eq_true_eq, decide_eq_false_iff_not, Int.not_lt, List.all_cons, List.all_nil, Bool.and_self, and_self, Bool.not_eq_true', exists_eq_left', List.toList_toArray, List.contains_nil, beq_self_eq_true, List.getD_cons_zero, cutL, List.drop_zero, List.take_succ_cons, Nat.add_zero, Nat.sub_zero, Nat.le_refl, List.take_nil, Nat.zero_lt_succ, regH_none, isNext, nextF, nextG, selC_true, selC_false, pureC, keys_byte, ↓mapK, isKeyA, kdT, tk37, dz37, tk81, mt81, tk83, dz83, setE_pos, nameOk_eq]
  refine ⟨fun h => ⟨h, fun h2 => by simp [h]; omega⟩, fun h => ⟨by decide, ⟨subX_one ?_, by rw [h]; rfl⟩, h.symm⟩, fun h => ⟨by decide, ⟨subX_one ?_, by rw [if_pos (by simpa using h)]⟩, by simpa using h⟩⟩
  all_goals simp (maxSteps := 4000000) only [subV_succ, subM, subL, AV.cells, List.getElem?_cons_succ, List.getElem?_cons_zero, and_self]
def kSet : C1 := C1.mby (hCons hMarks (hCons (hP .id cByte) (hCons (hP .id cPos) hNil))) (fun _ => True) (fun d => .bool (nameOk d.2.1)) (fun d => mkH (if nameOk d.2.1 = true then upd d.2.1 d.2.2.1 d.1.1 else d.1.1))
theorem ok_Set : C1OK Try.prog 19 kSet := C1OK.mby (by kernel_rfl) (fun d _ => calls_Set d.1.1 d.2.1 d.2.2.1) (fun _ _ => Nat.le_refl _)

set_option maxHeartbeats 4000000 in
theorem calls_Get (l : Mks) (b : UInt8) : CallsR Try.prog 23 [.ptr 0 1 1 0 0, .int .u8 b.toNat] (mkH l)
    (.tuple [.agg [.int .i64 ((look1 b l).getD (0, 0)).1, .int .i64 ((look1 b l).getD (0, 0)).2], .bool (look1 b l).isSome]) (mkH l) := by
  refine callsR_of (mrg := true) (dyn := []) (CtrOK.nil _) mixed Try.func23 rfl (by simp [Try.ntmps23]) (by kernel_rfl) ?_
  rw [show Try.f23.results.toList = [.cell 4 37, .tmp 5] from by kernel_rfl]
  simp (maxSteps := 4000000) only [↓wpA_H, ↓wpH_ret, ↓wpH_seq, ↓wpH_region, bselH_false, runH_nil, runH_cons, gw, gselH_plain, ↓chk, justK, noW, ↓oneK, ↓pureK, ↓heapK, envOf, ↓thenA_normal, ↓stepEv, opnd, Pg.look, Bool.and_true, Bool.false_eq_true, implies_true, imp_self, true_and, and_true, valV, heapV, footV, alives, aliveO, nxtQ, hdS, pairsA, frzA, closeQ_nil, closeQ_succ, diagQ_zero, diagQ_succ, Nat.reduceAdd, ofV, ofLeaf, retA, resK, tupA, subA, subQ, ptrsE, pairsO, frzO, subF, subG, pickOf, pairsE, pairsC, pairsL, pairs0, frzE, frzC, frzL, frz0, frzH, Pg.freeze, List.foldl_nil, subOs, subO, subEv, subV_succ, subM, subL, ldCells, objAt, res_succ, resM, AV.cells, TK.cells, AV.definite, AV.leaf, AV.leafy, AV.pureLeaf, AV.pureB, putCells, lay, List.getElem?_cons_succ, List.getElem?_cons_zero, Option.getD_some, reduceCtorEq, Nat.reduceEqDiff, Nat.reduceAdd, Nat.reduceLT, List.nil_append, List.append_nil, List.cons_append, List.length_cons, List.length_nil, List.set_cons_zero, List.set_cons_succ, Nat.zero_add, ite_true, ite_false, Option.some.injEq, List.all_cons, List.all_nil, Bool.and_self, and_self, exists_eq_left', List.contains_nil, beq_self_eq_true, List.getD_cons_zero, cutL, List.drop_zero, List.drop_succ_cons, List.take_succ_cons, List.take_zero, Nat.add_zero, Nat.sub_zero, Nat.le_refl, List.drop_nil, List.take_nil, Nat.zero_lt_succ, regH_none, isNext, nextF, nextG, selC_false, findE_byte, keys_byte, ↓mapK, mapAt, isKeyA, kdT, hasE, lookV, tk37, tz37, dz37, tk81, mt81, tk83, dz83, findD_pos, isSome_pos]
  refine ⟨by decide, subX_one ?_⟩
  simp (maxSteps := 4000000) only [subV_succ, subM, subL, AV.cells, List.getElem?_cons_succ, List.getElem?_cons_zero, and_self]
def kGet : C1 := C1.mby (hCons hMarks (hCons (hP .id cByte) hNil)) (fun _ => True) (fun d => .tuple [.agg [.int .i64 ((look1 d.2.1 d.1.1).getD (0, 0)).1, .int .i64 ((look1 d.2.1 d.1.1).getD (0, 0)).2], .bool (look1 d.2.1 d.1.1).isSome]) (fun d => mkH d.1.1)
theorem ok_Get : C1OK Try.prog 23 kGet := C1OK.mby (by kernel_rfl) (fun d _ => calls_Get d.1.1 d.2.1) (fun _ _ => Nat.le_refl _)

/-! ### Where a line is behind a change -/
def wrong (n : Int) : Bool := decide (n < 0) || decide (n > 1073741824)
set_option maxHeartbeats 4000000 in
theorem calls_wrong (n : Int) : CallsR Try.prog 44 [.int .i64 n] [] (.bool (wrong n)) [] := by
  refine callsR_of (mrg := true) (dyn := []) (CtrOK.nil _) mixed Try.func44 rfl (by simp [Try.ntmps44]) (by kernel_rfl) ?_
  rw [show Try.f44.results.toList = [.tmp 2] from by kernel_rfl]
  simp (maxSteps := 4000000) only [↓wpA_H, ↓wpH_ret, ↓wpH_seq, ↓wpH_region, bselH_false, runH_nil, runH_cons, gw, gselH_plain, gselH_if, kselH_1, gkind, ↓chk, justK, ↓oneK, ↓pureK, envOf, ↓thenA_normal, ↓stepEv, opnd, Pg.look, binK, intOp, dstOf, Bool.false_eq_true, implies_true, imp_self, and_true, pickC, pickV, unc, gof, mux, mergeK, condsL, valV, heapV, footV, binV, intV, alives, closeQ_nil, diagQ_zero, mergeable, look_stripE, ofV, ofLeaf, sameK, retA, resK, tupA, subA, subQ, ptrsE, frzO, subF, subG, pickOf, frzE, frzC, frz0, frzH, Pg.freeze, List.foldl_nil, subOs, subEv, subV_succ, subM, Op.operands, List.getElem?_toArray, List.getElem?_cons_succ, List.getElem?_cons_zero, Option.bind_some, reduceCtorEq, Nat.reduceEqDiff, List.append_nil, List.length_nil, ite_true, ite_false, Bool.if_true_left, decide_eq_true_eq, decide_eq_false_iff_not, Int.not_lt, Bool.and_self, and_self, Bool.not_eq_true', pickOK_nil, List.toList_toArray, List.contains_nil, regH_none, isNext, nextF, nextG, selC_false, wrong]
  try done
def kWrong : C1 := C1.by [.id] (lOne (cInt .i64)) (fun _ => True) (fun d => .bool (wrong d)) (fun _ => [])
theorem ok_wrong : C1OK Try.prog 44 kWrong := C1OK.by (by kernel_rfl) (fun d _ => calls_wrong d) (fun _ => rfl) (fun _ => rfl)
set_option maxHeartbeats 4000000 in
theorem calls_odd (n : Int) : CallsR Try.prog 45 [.int .i64 n] [] (.bool (wrong n)) [] := by
  refine callsR_of (mrg := true) (dyn := []) (CtrOK.nil _) mixed Try.func45 rfl (by simp [Try.ntmps45]) (by kernel_rfl) ?_
  rw [show Try.f45.results.toList = [.tmp 2] from by kernel_rfl]
  simp (maxSteps := 4000000) only [↓wpA_H, ↓wpH_ret, ↓wpH_seq, ↓wpH_region, bselH_false, runH_nil, runH_cons, gw, gselH_plain, gselH_if, kselH_1, gkind, ↓chk, justK, ↓oneK, ↓pureK, envOf, ↓thenA_normal, ↓stepEv, opnd, Pg.look, binK, intOp, dstOf, Bool.false_eq_true, implies_true, imp_self, and_true, pickC, pickV, unc, gof, mux, mergeK, condsL, valV, heapV, footV, binV, intV, alives, closeQ_nil, diagQ_zero, mergeable, look_stripE, ofV, ofLeaf, sameK, retA, resK, tupA, subA, subQ, ptrsE, frzO, subF, subG, pickOf, frzE, frzC, frz0, frzH, Pg.freeze, List.foldl_nil, subOs, subEv, subV_succ, subM, Op.operands, List.getElem?_toArray, List.getElem?_cons_succ, List.getElem?_cons_zero, Option.bind_some, reduceCtorEq, Nat.reduceEqDiff, List.append_nil, List.length_nil, ite_true, ite_false, Bool.if_true_left, decide_eq_true_eq, decide_eq_false_iff_not, Int.not_lt, Bool.and_self, and_self, Bool.not_eq_true', pickOK_nil, List.toList_toArray, List.contains_nil, regH_none, isNext, nextF, nextG, selC_false, wrong]
  try done
theorem ok_odd : C1OK Try.prog 45 kWrong := C1OK.by (by kernel_rfl) (fun d _ => calls_odd d) (fun _ => rfl) (fun _ => rfl)

abbrev w64 (n : Int) : Int := IntKind.i64.wrap n
def shiftM (line at_ old now : Int) : Int × Bool :=
  if (wrong at_ || wrong old || wrong now || decide (line < at_)) = true then (line, true)
  else if w64 (line - at_) ≥ old then (w64 (line + w64 (now - old)), true)
  else if w64 (line - at_) < now then (line, true) else (0, false)
def shiftR13 (line at_ old now : Int) : Int × Bool :=
  if (wrong at_ || wrong old || wrong now || decide (line < at_)) = true then (line, true)
  else if w64 (line - at_) < old then (if w64 (line - at_) < now then (line, true) else (0, false))
  else (w64 (w64 (line - old) + now), true)
set_option maxHeartbeats 4000000 in
theorem calls_Shift (line at_ old now : Int) : CallsR Try.prog 16 [.int .i64 line, .int .i64 at_, .int .i64 old, .int .i64 now] [] (.tuple [.int .i64 (shiftM line at_ old now).1, .bool (shiftM line at_ old now).2]) [] := by
  refine callsR_of (mrg := true) (dyn := []) (CtrOK.cons ok_wrong (CtrOK.nil _)) mixed Try.func16 rfl (by simp [Try.ntmps16]) (by kernel_rfl) ?_
  rw [show Try.f16.results.toList = [.tmp 8, .tmp 9] from by kernel_rfl]
  simp (maxSteps := 4000000) only [↓wpA_H, ↓wpH_skip, ↓wpH_ret, ↓wpH_seq, ↓wpH_cond, ↓wpH_block, ↓wpH_region, iselH_if, bselH_false, runH_nil, runH_cons, gw, gselH_plain, gselH_if, kselH_1, cselH_bool, gkind, ↓chk, justK, ↓oneK, ↓pureK, envOf, ↓thenA_normal, ↓thenA_ret, ↓blockA_normal, ↓blockA_ret, ↓stepEv, opnd, Pg.look, binK, intOp, dstOf, Bool.false_eq_true, implies_true, imp_self, true_and, and_true, pickC, pickV, unc, gof, mux, mergeK, condsL, valV, heapV, footV, binV, intV, alives, closeQ_nil, diagQ_zero, Nat.reduceAdd, mergeable, look_stripE, ofV, ofLeaf, sameK, retA, resK, tupA, subA, subQ, ptrsE, frzO, subF, subG, pickOf, frzE, frzC, frzL, frz0, frzH, Pg.freeze, List.foldl_nil, subOs, subEv, subV_succ, subM, subL, ↓callT, callC, callV, callH, normArgs, normA, resL, res8_eq, res_succ, resM, shiftR, shift1, Op.operands, Call.operands, Array.toList_append, List.getElem?_toArray, List.getElem?_cons_succ, List.getElem?_cons_zero, Option.bind_some, reduceCtorEq, Nat.reduceEqDiff, Nat.reduceAdd, List.nil_append, List.append_nil, List.cons_append, List.length_nil, List.map_cons, List.map_nil, Nat.zero_add, ite_true, ite_false, Bool.if_true_left, Bool.decide_eq_true, decide_eq_true_eq, decide_eq_false_iff_not, Int.not_le, Int.not_lt, Bool.and_self, and_self, Bool.not_eq_true', pickOK_nil, cInt_dec, List.toList_toArray, lOne_dec, List.contains_nil, List.range'_zero, C1by_ns, C1by_pre, C1by_r, C1by_H, optP_some, optV_some, optH_some, C1by_it, regH_none, isNext, nextF, nextG, selC_false, ↓msel, muC, ↓callP, C1by_mu, kWrong]
  unfold shiftM w64
  refine ⟨fun h => by simp only [h, if_true, and_self], fun h => ⟨fun h1 => ?_, fun h1 => ⟨fun h2 => ?_, fun h2 => ?_⟩⟩⟩
  · simp only [h, Bool.false_eq_true, if_false, if_pos h1, and_self]
  · simp only [h, Bool.false_eq_true, if_false, if_neg (Int.not_le.2 h1), if_pos h2, and_self, ge_iff_le]
  · simp only [h, Bool.false_eq_true, if_false, if_neg (Int.not_le.2 h1), if_neg (Int.not_lt.2 h2), and_self, ge_iff_le]
def kShift : C1 := C1.by [.id, .id, .id, .id] (lCons (cInt .i64) (lCons (cInt .i64) (lCons (cInt .i64) (lOne (cInt .i64))))) (fun _ => True) (fun d => .tuple [.int .i64 (shiftM d.1 d.2.1 d.2.2.1 d.2.2.2).1, .bool (shiftM d.1 d.2.1 d.2.2.1 d.2.2.2).2]) (fun _ => [])
theorem ok_Shift : C1OK Try.prog 16 kShift := C1OK.by (by kernel_rfl) (fun d _ => calls_Shift d.1 d.2.1 d.2.2.1 d.2.2.2) (fun _ => rfl) (fun _ => rfl)
set_option maxHeartbeats 4000000 in
theorem calls_Shift13 (line at_ old now : Int) : CallsR Try.prog 17 [.int .i64 line, .int .i64 at_, .int .i64 old, .int .i64 now] [] (.tuple [.int .i64 (shiftR13 line at_ old now).1, .bool (shiftR13 line at_ old now).2]) [] := by
  refine callsR_of (mrg := true) (dyn := []) (CtrOK.cons ok_odd (CtrOK.nil _)) mixed Try.func17 rfl (by simp [Try.ntmps17]) (by kernel_rfl) ?_
  rw [show Try.f17.results.toList = [.tmp 8, .tmp 9] from by kernel_rfl]
  simp (maxSteps := 4000000) only [↓wpA_H, ↓wpH_skip, ↓wpH_ret, ↓wpH_seq, ↓wpH_cond, ↓wpH_block, ↓wpH_region, iselH_if, bselH_false, runH_nil, runH_cons, gw, gselH_plain, gselH_if, kselH_1, cselH_bool, gkind, ↓chk, justK, ↓oneK, ↓pureK, envOf, ↓thenA_normal, ↓thenA_ret, ↓blockA_normal, ↓blockA_ret, ↓stepEv, opnd, Pg.look, binK, intOp, dstOf, Bool.false_eq_true, implies_true, imp_self, true_and, and_true, pickC, pickV, unc, gof, mux, mergeK, condsL, valV, heapV, footV, binV, intV, alives, closeQ_nil, diagQ_zero, Nat.reduceAdd, mergeable, look_stripE, ofV, ofLeaf, sameK, retA, resK, tupA, subA, subQ, ptrsE, frzO, subF, subG, pickOf, frzE, frzC, frzL, frz0, frzH, Pg.freeze, List.foldl_nil, subOs, subEv, subV_succ, subM, subL, ↓callT, callC, callV, callH, normArgs, normA, resL, res8_eq, res_succ, resM, shiftR, shift1, Op.operands, Call.operands, Array.toList_append, List.getElem?_toArray, List.getElem?_cons_succ, List.getElem?_cons_zero, Option.bind_some, reduceCtorEq, Nat.reduceEqDiff, Nat.reduceAdd, List.nil_append, List.append_nil, List.cons_append, List.length_nil, List.map_cons, List.map_nil, Nat.zero_add, ite_true, ite_false, Bool.if_true_left, Bool.decide_eq_true, decide_eq_true_eq, decide_eq_false_iff_not, Int.not_lt, Bool.and_self, and_self, Bool.not_eq_true', pickOK_nil, cInt_dec, List.toList_toArray, lOne_dec, List.contains_nil, List.range'_zero, C1by_ns, C1by_pre, C1by_r, C1by_H, optP_some, optV_some, optH_some, C1by_it, regH_none, isNext, nextF, nextG, selC_false, ↓msel, muC, ↓callP, C1by_mu, kWrong]
  unfold shiftR13 w64
  refine ⟨fun h => by simp only [h, if_true, and_self], fun h => ⟨fun h1 => ⟨fun h2 => ?_, fun h2 => ?_⟩, fun h1 => ?_⟩⟩
  · simp only [h, Bool.false_eq_true, if_false, if_pos h1, if_pos h2, and_self]
  · simp only [h, Bool.false_eq_true, if_false, if_pos h1, if_neg (Int.not_lt.2 h2), and_self]
  · simp only [h, Bool.false_eq_true, if_false, if_neg (Int.not_lt.2 h1), and_self]
def kShift13 : C1 := C1.by [.id, .id, .id, .id] (lCons (cInt .i64) (lCons (cInt .i64) (lCons (cInt .i64) (lOne (cInt .i64))))) (fun _ => True) (fun d => .tuple [.int .i64 (shiftR13 d.1 d.2.1 d.2.2.1 d.2.2.2).1, .bool (shiftR13 d.1 d.2.1 d.2.2.1 d.2.2.2).2]) (fun _ => [])
theorem ok_Shift13 : C1OK Try.prog 17 kShift13 := C1OK.by (by kernel_rfl) (fun d _ => calls_Shift13 d.1 d.2.1 d.2.2.1 d.2.2.2) (fun _ => rfl) (fun _ => rfl)
end Go.Pg
