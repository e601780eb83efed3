/- Facts of the program's types, by the kernel. Lists of strings are compared as they are. Letters, places, copies of lists. Changes told; copies of lists. A text is written at a place. Classes of bytes, places in order. -/
import Derived.Test.YtombifgcpghkgaaPgLst
import Derived.Test.YtombifgcpghkgaaProg
import Derived.KernelRfl
import Derived.Test.YtombifgcpghkgaaPgNil
namespace Go.Pg
open Go Go.Proofs
theorem mixed : Try.prog.follows .mixedOrders = true := by kernel_rfl
theorem tk1 : tk Try.prog 1 = TK.leaf := by kernel_rfl
theorem tz1 : tz Try.prog 1 = AV.nfn := by kernel_rfl
theorem dz1 : dz Try.prog 1 = AV.nfn := by kernel_rfl
theorem tk2 : tk Try.prog 2 = TK.int IntKind.i64 := by kernel_rfl
theorem tz2 : tz Try.prog 2 = AV.int IntKind.i64 0 := by kernel_rfl
theorem dz2 : dz Try.prog 2 = AV.int IntKind.i64 0 := by kernel_rfl
theorem eb2 : eb Try.prog 2 = some 8 := by kernel_rfl
theorem eq2 : eqK Try.prog 2 = some [1] := by kernel_rfl
theorem tk3 : tk Try.prog 3 = TK.int IntKind.i64 := by kernel_rfl
theorem tz3 : tz Try.prog 3 = AV.int IntKind.i64 0 := by kernel_rfl
theorem dz3 : dz Try.prog 3 = AV.int IntKind.i64 0 := by kernel_rfl
theorem eb3 : eb Try.prog 3 = some 8 := by kernel_rfl
theorem eq3 : eqK Try.prog 3 = some [1] := by kernel_rfl
theorem tk4 : tk Try.prog 4 = TK.bool := by kernel_rfl
theorem tz4 : tz Try.prog 4 = AV.bool false := by kernel_rfl
theorem dz4 : dz Try.prog 4 = AV.bool false := by kernel_rfl
theorem eb4 : eb Try.prog 4 = some 1 := by kernel_rfl
theorem eq4 : eqK Try.prog 4 = some [0] := by kernel_rfl
theorem tk5 : tk Try.prog 5 = TK.int IntKind.u8 := by kernel_rfl
theorem tz5 : tz Try.prog 5 = AV.int IntKind.u8 0 := by kernel_rfl
theorem dz5 : dz Try.prog 5 = AV.int IntKind.u8 0 := by kernel_rfl
theorem eb5 : eb Try.prog 5 = some 1 := by kernel_rfl
theorem eq5 : eqK Try.prog 5 = some [1] := by kernel_rfl
theorem tk6 : tk Try.prog 6 = TK.int IntKind.u8 := by kernel_rfl
theorem tz6 : tz Try.prog 6 = AV.int IntKind.u8 0 := by kernel_rfl
theorem dz6 : dz Try.prog 6 = AV.int IntKind.u8 0 := by kernel_rfl
theorem eb6 : eb Try.prog 6 = some 1 := by kernel_rfl
theorem eq6 : eqK Try.prog 6 = some [1] := by kernel_rfl
theorem tk7 : tk Try.prog 7 = TK.struct 4 [some (0, 1), some (1, 1), some (2, 1), some (3, 1)] := by kernel_rfl
theorem tz7 : tz Try.prog 7 = AV.agg [AV.int IntKind.i64 0, AV.int IntKind.i64 0, AV.bool false, AV.int IntKind.u8 0] := by kernel_rfl
theorem dz7 : dz Try.prog 7 = AV.agg [AV.int IntKind.i64 0, AV.int IntKind.i64 0, AV.bool false, AV.int IntKind.u8 0] := by kernel_rfl
theorem eb7 : eb Try.prog 7 = some 24 := by kernel_rfl
theorem eq7 : eqK Try.prog 7 = some [1, 1, 0, 1] := by kernel_rfl
theorem tk8 : tk Try.prog 8 = TK.struct 4 [some (0, 1), some (1, 1), some (2, 1), some (3, 1)] := by kernel_rfl
theorem tz8 : tz Try.prog 8 = AV.agg [AV.int IntKind.i64 0, AV.int IntKind.i64 0, AV.bool false, AV.int IntKind.u8 0] := by kernel_rfl
theorem dz8 : dz Try.prog 8 = AV.agg [AV.int IntKind.i64 0, AV.int IntKind.i64 0, AV.bool false, AV.int IntKind.u8 0] := by kernel_rfl
theorem eb8 : eb Try.prog 8 = some 24 := by kernel_rfl
theorem eq8 : eqK Try.prog 8 = some [1, 1, 0, 1] := by kernel_rfl
theorem tk9 : tk Try.prog 9 = TK.str := by kernel_rfl
theorem tz9 : tz Try.prog 9 = AV.str [] := by kernel_rfl
theorem dz9 : dz Try.prog 9 = AV.str [] := by kernel_rfl
theorem eb9 : eb Try.prog 9 = some 16 := by kernel_rfl
theorem eq9 : eqK Try.prog 9 = some [2] := by kernel_rfl
theorem tk10 : tk Try.prog 10 = TK.str := by kernel_rfl
theorem tz10 : tz Try.prog 10 = AV.str [] := by kernel_rfl
theorem dz10 : dz Try.prog 10 = AV.str [] := by kernel_rfl
theorem eb10 : eb Try.prog 10 = some 16 := by kernel_rfl
theorem eq10 : eqK Try.prog 10 = some [2] := by kernel_rfl
theorem tk11 : tk Try.prog 11 = TK.str := by kernel_rfl
theorem tz11 : tz Try.prog 11 = AV.str [] := by kernel_rfl
theorem dz11 : dz Try.prog 11 = AV.str [] := by kernel_rfl
theorem eb11 : eb Try.prog 11 = some 16 := by kernel_rfl
theorem eq11 : eqK Try.prog 11 = some [2] := by kernel_rfl
theorem tk12 : tk Try.prog 12 = TK.int IntKind.u64 := by kernel_rfl
theorem tz12 : tz Try.prog 12 = AV.int IntKind.u64 0 := by kernel_rfl
theorem dz12 : dz Try.prog 12 = AV.int IntKind.u64 0 := by kernel_rfl
theorem eb12 : eb Try.prog 12 = some 8 := by kernel_rfl
theorem eq12 : eqK Try.prog 12 = some [1] := by kernel_rfl
theorem tk13 : tk Try.prog 13 = TK.struct 2 [some (0, 1), some (1, 1)] := by kernel_rfl
theorem tz13 : tz Try.prog 13 = AV.agg [AV.str [], AV.int IntKind.u64 0] := by kernel_rfl
theorem dz13 : dz Try.prog 13 = AV.agg [AV.str [], AV.int IntKind.u64 0] := by kernel_rfl
theorem eb13 : eb Try.prog 13 = some 24 := by kernel_rfl
theorem tk14 : tk Try.prog 14 = TK.struct 2 [some (0, 1), some (1, 1)] := by kernel_rfl
theorem tz14 : tz Try.prog 14 = AV.agg [AV.str [], AV.int IntKind.u64 0] := by kernel_rfl
theorem dz14 : dz Try.prog 14 = AV.agg [AV.str [], AV.int IntKind.u64 0] := by kernel_rfl
theorem eb14 : eb Try.prog 14 = some 24 := by kernel_rfl
theorem tk15 : tk Try.prog 15 = TK.leaf := by kernel_rfl
theorem tk16 : tk Try.prog 16 = TK.leaf := by kernel_rfl
theorem tk17 : tk Try.prog 17 = TK.leaf := by kernel_rfl
theorem tk18 : tk Try.prog 18 = TK.struct 1 [some (0, 1)] := by kernel_rfl
theorem tz18 : tz Try.prog 18 = AV.agg [AV.top] := by kernel_rfl
theorem dz18 : dz Try.prog 18 = AV.agg [AV.top] := by kernel_rfl
theorem eb18 : eb Try.prog 18 = some 8 := by kernel_rfl
theorem tk19 : tk Try.prog 19 = TK.struct 1 [some (0, 1)] := by kernel_rfl
theorem tz19 : tz Try.prog 19 = AV.agg [AV.top] := by kernel_rfl
theorem dz19 : dz Try.prog 19 = AV.agg [AV.top] := by kernel_rfl
theorem eb19 : eb Try.prog 19 = some 8 := by kernel_rfl
theorem tk20 : tk Try.prog 20 = TK.leaf := by kernel_rfl
theorem tk21 : tk Try.prog 21 = TK.int IntKind.i32 := by kernel_rfl
theorem tz21 : tz Try.prog 21 = AV.int IntKind.i32 0 := by kernel_rfl
theorem dz21 : dz Try.prog 21 = AV.int IntKind.i32 0 := by kernel_rfl
theorem eb21 : eb Try.prog 21 = some 4 := by kernel_rfl
theorem eq21 : eqK Try.prog 21 = some [1] := by kernel_rfl
theorem tk22 : tk Try.prog 22 = TK.slice 9 1 := by kernel_rfl
theorem tz22 : tz Try.prog 22 = AV.nls := by kernel_rfl
theorem dz22 : dz Try.prog 22 = AV.sl 1 [] := by kernel_rfl
theorem eb22 : eb Try.prog 22 = some 24 := by kernel_rfl
theorem tk23 : tk Try.prog 23 = TK.int IntKind.u16 := by kernel_rfl
theorem tz23 : tz Try.prog 23 = AV.int IntKind.u16 0 := by kernel_rfl
theorem dz23 : dz Try.prog 23 = AV.int IntKind.u16 0 := by kernel_rfl
theorem eb23 : eb Try.prog 23 = some 2 := by kernel_rfl
theorem eq23 : eqK Try.prog 23 = some [1] := by kernel_rfl
theorem tk24 : tk Try.prog 24 = TK.leaf := by kernel_rfl
theorem tz24 : tz Try.prog 24 = AV.nfn := by kernel_rfl
theorem dz24 : dz Try.prog 24 = AV.nfn := by kernel_rfl
theorem tk25 : tk Try.prog 25 = TK.leaf := by kernel_rfl
theorem tz25 : tz Try.prog 25 = AV.nfn := by kernel_rfl
theorem dz25 : dz Try.prog 25 = AV.nfn := by kernel_rfl
theorem tk26 : tk Try.prog 26 = TK.struct 2 [some (0, 1), some (1, 1)] := by kernel_rfl
theorem tz26 : tz Try.prog 26 = AV.agg [AV.int IntKind.i64 0, AV.int IntKind.i64 0] := by kernel_rfl
theorem dz26 : dz Try.prog 26 = AV.agg [AV.int IntKind.i64 0, AV.int IntKind.i64 0] := by kernel_rfl
theorem eb26 : eb Try.prog 26 = some 16 := by kernel_rfl
theorem eq26 : eqK Try.prog 26 = some [1, 1] := by kernel_rfl
theorem tk27 : tk Try.prog 27 = TK.struct 2 [some (0, 1), some (1, 1)] := by kernel_rfl
theorem tz27 : tz Try.prog 27 = AV.agg [AV.int IntKind.i64 0, AV.int IntKind.i64 0] := by kernel_rfl
theorem dz27 : dz Try.prog 27 = AV.agg [AV.int IntKind.i64 0, AV.int IntKind.i64 0] := by kernel_rfl
theorem eb27 : eb Try.prog 27 = some 16 := by kernel_rfl
theorem eq27 : eqK Try.prog 27 = some [1, 1] := by kernel_rfl
theorem tk28 : tk Try.prog 28 = TK.struct 5 [some (0, 1), some (1, 2), some (3, 2)] := by kernel_rfl
theorem tz28 : tz Try.prog 28 = AV.agg [AV.int IntKind.i64 0, AV.int IntKind.i64 0, AV.int IntKind.i64 0, AV.int IntKind.i64 0, AV.int IntKind.i64 0] := by kernel_rfl
theorem dz28 : dz Try.prog 28 = AV.agg [AV.int IntKind.i64 0, AV.int IntKind.i64 0, AV.int IntKind.i64 0, AV.int IntKind.i64 0, AV.int IntKind.i64 0] := by kernel_rfl
theorem eb28 : eb Try.prog 28 = some 40 := by kernel_rfl
theorem eq28 : eqK Try.prog 28 = some [1, 1, 1, 1, 1] := by kernel_rfl
theorem tk29 : tk Try.prog 29 = TK.struct 5 [some (0, 1), some (1, 2), some (3, 2)] := by kernel_rfl
theorem tz29 : tz Try.prog 29 = AV.agg [AV.int IntKind.i64 0, AV.int IntKind.i64 0, AV.int IntKind.i64 0, AV.int IntKind.i64 0, AV.int IntKind.i64 0] := by kernel_rfl
theorem dz29 : dz Try.prog 29 = AV.agg [AV.int IntKind.i64 0, AV.int IntKind.i64 0, AV.int IntKind.i64 0, AV.int IntKind.i64 0, AV.int IntKind.i64 0] := by kernel_rfl
theorem eb29 : eb Try.prog 29 = some 40 := by kernel_rfl
theorem eq29 : eqK Try.prog 29 = some [1, 1, 1, 1, 1] := by kernel_rfl
theorem tk30 : tk Try.prog 30 = TK.leaf := by kernel_rfl
theorem tz30 : tz Try.prog 30 = AV.nfn := by kernel_rfl
theorem dz30 : dz Try.prog 30 = AV.nfn := by kernel_rfl
theorem tk31 : tk Try.prog 31 = TK.struct 2 [some (0, 1), some (1, 1)] := by kernel_rfl
theorem tz31 : tz Try.prog 31 = AV.agg [AV.int IntKind.i64 0, AV.nls] := by kernel_rfl
theorem dz31 : dz Try.prog 31 = AV.agg [AV.int IntKind.i64 0, AV.sl 1 []] := by kernel_rfl
theorem eb31 : eb Try.prog 31 = some 32 := by kernel_rfl
theorem tk32 : tk Try.prog 32 = TK.struct 2 [some (0, 1), some (1, 1)] := by kernel_rfl
theorem tz32 : tz Try.prog 32 = AV.agg [AV.int IntKind.i64 0, AV.nls] := by kernel_rfl
theorem dz32 : dz Try.prog 32 = AV.agg [AV.int IntKind.i64 0, AV.sl 1 []] := by kernel_rfl
theorem eb32 : eb Try.prog 32 = some 32 := by kernel_rfl
theorem tk33 : tk Try.prog 33 = TK.leaf := by kernel_rfl
theorem tz33 : tz Try.prog 33 = AV.nfn := by kernel_rfl
theorem dz33 : dz Try.prog 33 = AV.nfn := by kernel_rfl
theorem tk34 : tk Try.prog 34 = TK.struct 3 [some (0, 1), some (1, 1), some (2, 1)] := by kernel_rfl
theorem tz34 : tz Try.prog 34 = AV.agg [AV.int IntKind.i64 0, AV.nls, AV.nls] := by kernel_rfl
theorem dz34 : dz Try.prog 34 = AV.agg [AV.int IntKind.i64 0, AV.sl 1 [], AV.sl 1 []] := by kernel_rfl
theorem eb34 : eb Try.prog 34 = some 56 := by kernel_rfl
theorem tk35 : tk Try.prog 35 = TK.struct 3 [some (0, 1), some (1, 1), some (2, 1)] := by kernel_rfl
theorem tz35 : tz Try.prog 35 = AV.agg [AV.int IntKind.i64 0, AV.nls, AV.nls] := by kernel_rfl
theorem dz35 : dz Try.prog 35 = AV.agg [AV.int IntKind.i64 0, AV.sl 1 [], AV.sl 1 []] := by kernel_rfl
theorem eb35 : eb Try.prog 35 = some 56 := by kernel_rfl
theorem tk37 : tk Try.prog 37 = TK.leaf := by kernel_rfl
theorem tz37 : tz Try.prog 37 = AV.nfn := by kernel_rfl
theorem dz37 : dz Try.prog 37 = AV.nfn := by kernel_rfl
theorem tk39 : tk Try.prog 39 = TK.leaf := by kernel_rfl
theorem tz39 : tz Try.prog 39 = AV.nfn := by kernel_rfl
theorem dz39 : dz Try.prog 39 = AV.nfn := by kernel_rfl
theorem tk40 : tk Try.prog 40 = TK.slice 35 3 := by kernel_rfl
theorem tz40 : tz Try.prog 40 = AV.nls := by kernel_rfl
theorem dz40 : dz Try.prog 40 = AV.sl 3 [] := by kernel_rfl
theorem eb40 : eb Try.prog 40 = some 24 := by kernel_rfl
theorem tk41 : tk Try.prog 41 = TK.leaf := by kernel_rfl
theorem tz41 : tz Try.prog 41 = AV.nfn := by kernel_rfl
theorem dz41 : dz Try.prog 41 = AV.nfn := by kernel_rfl
theorem tk42 : tk Try.prog 42 = TK.leaf := by kernel_rfl
theorem tz42 : tz Try.prog 42 = AV.nfn := by kernel_rfl
theorem dz42 : dz Try.prog 42 = AV.nfn := by kernel_rfl
theorem tk43 : tk Try.prog 43 = TK.leaf := by kernel_rfl
theorem tz43 : tz Try.prog 43 = AV.nfn := by kernel_rfl
theorem dz43 : dz Try.prog 43 = AV.nfn := by kernel_rfl
theorem tk44 : tk Try.prog 44 = TK.leaf := by kernel_rfl
theorem tz44 : tz Try.prog 44 = AV.nfn := by kernel_rfl
theorem dz44 : dz Try.prog 44 = AV.nfn := by kernel_rfl
theorem tk45 : tk Try.prog 45 = TK.leaf := by kernel_rfl
theorem tz45 : tz Try.prog 45 = AV.nfn := by kernel_rfl
theorem dz45 : dz Try.prog 45 = AV.nfn := by kernel_rfl
theorem tk46 : tk Try.prog 46 = TK.leaf := by kernel_rfl
theorem tz46 : tz Try.prog 46 = AV.nfn := by kernel_rfl
theorem dz46 : dz Try.prog 46 = AV.nfn := by kernel_rfl
theorem tk47 : tk Try.prog 47 = TK.leaf := by kernel_rfl
theorem tz47 : tz Try.prog 47 = AV.nfn := by kernel_rfl
theorem dz47 : dz Try.prog 47 = AV.nfn := by kernel_rfl
theorem tk48 : tk Try.prog 48 = TK.leaf := by kernel_rfl
theorem tz48 : tz Try.prog 48 = AV.nfn := by kernel_rfl
theorem dz48 : dz Try.prog 48 = AV.nfn := by kernel_rfl
theorem tk50 : tk Try.prog 50 = TK.leaf := by kernel_rfl
theorem tz50 : tz Try.prog 50 = AV.nfn := by kernel_rfl
theorem dz50 : dz Try.prog 50 = AV.nfn := by kernel_rfl
theorem tk51 : tk Try.prog 51 = TK.leaf := by kernel_rfl
theorem tz51 : tz Try.prog 51 = AV.nfn := by kernel_rfl
theorem dz51 : dz Try.prog 51 = AV.nfn := by kernel_rfl
theorem tk52 : tk Try.prog 52 = TK.int IntKind.i8 := by kernel_rfl
theorem tz52 : tz Try.prog 52 = AV.int IntKind.i8 0 := by kernel_rfl
theorem dz52 : dz Try.prog 52 = AV.int IntKind.i8 0 := by kernel_rfl
theorem eb52 : eb Try.prog 52 = some 1 := by kernel_rfl
theorem eq52 : eqK Try.prog 52 = some [1] := by kernel_rfl
theorem tk53 : tk Try.prog 53 = TK.slice 5 1 := by kernel_rfl
theorem tz53 : tz Try.prog 53 = AV.nls := by kernel_rfl
theorem dz53 : dz Try.prog 53 = AV.sl 1 [] := by kernel_rfl
theorem eb53 : eb Try.prog 53 = some 24 := by kernel_rfl
theorem tk54 : tk Try.prog 54 = TK.leaf := by kernel_rfl
theorem tz54 : tz Try.prog 54 = AV.nfn := by kernel_rfl
theorem dz54 : dz Try.prog 54 = AV.nfn := by kernel_rfl
theorem tk55 : tk Try.prog 55 = TK.leaf := by kernel_rfl
theorem tz55 : tz Try.prog 55 = AV.nfn := by kernel_rfl
theorem dz55 : dz Try.prog 55 = AV.nfn := by kernel_rfl
theorem tk56 : tk Try.prog 56 = TK.leaf := by kernel_rfl
theorem tz56 : tz Try.prog 56 = AV.nfn := by kernel_rfl
theorem dz56 : dz Try.prog 56 = AV.nfn := by kernel_rfl
theorem tk57 : tk Try.prog 57 = TK.leaf := by kernel_rfl
theorem tz57 : tz Try.prog 57 = AV.nfn := by kernel_rfl
theorem dz57 : dz Try.prog 57 = AV.nfn := by kernel_rfl
theorem tk58 : tk Try.prog 58 = TK.leaf := by kernel_rfl
theorem tz58 : tz Try.prog 58 = AV.nfn := by kernel_rfl
theorem dz58 : dz Try.prog 58 = AV.nfn := by kernel_rfl
theorem tk59 : tk Try.prog 59 = TK.leaf := by kernel_rfl
theorem tz59 : tz Try.prog 59 = AV.nfn := by kernel_rfl
theorem dz59 : dz Try.prog 59 = AV.nfn := by kernel_rfl
theorem tk60 : tk Try.prog 60 = TK.leaf := by kernel_rfl
theorem tz60 : tz Try.prog 60 = AV.nfn := by kernel_rfl
theorem dz60 : dz Try.prog 60 = AV.nfn := by kernel_rfl
theorem tk61 : tk Try.prog 61 = TK.leaf := by kernel_rfl
theorem tz61 : tz Try.prog 61 = AV.nfn := by kernel_rfl
theorem dz61 : dz Try.prog 61 = AV.nfn := by kernel_rfl
theorem tk62 : tk Try.prog 62 = TK.leaf := by kernel_rfl
theorem tz62 : tz Try.prog 62 = AV.nfn := by kernel_rfl
theorem dz62 : dz Try.prog 62 = AV.nfn := by kernel_rfl
theorem tk63 : tk Try.prog 63 = TK.leaf := by kernel_rfl
theorem tz63 : tz Try.prog 63 = AV.nfn := by kernel_rfl
theorem dz63 : dz Try.prog 63 = AV.nfn := by kernel_rfl
theorem tk64 : tk Try.prog 64 = TK.leaf := by kernel_rfl
theorem tz64 : tz Try.prog 64 = AV.nfn := by kernel_rfl
theorem dz64 : dz Try.prog 64 = AV.nfn := by kernel_rfl
theorem tk66 : tk Try.prog 66 = TK.leaf := by kernel_rfl
theorem tz66 : tz Try.prog 66 = AV.nfn := by kernel_rfl
theorem dz66 : dz Try.prog 66 = AV.nfn := by kernel_rfl
theorem tk67 : tk Try.prog 67 = TK.leaf := by kernel_rfl
theorem tz67 : tz Try.prog 67 = AV.nfn := by kernel_rfl
theorem dz67 : dz Try.prog 67 = AV.nfn := by kernel_rfl
theorem tk68 : tk Try.prog 68 = TK.leaf := by kernel_rfl
theorem tz68 : tz Try.prog 68 = AV.nfn := by kernel_rfl
theorem dz68 : dz Try.prog 68 = AV.nfn := by kernel_rfl
theorem tk69 : tk Try.prog 69 = TK.leaf := by kernel_rfl
theorem tz69 : tz Try.prog 69 = AV.nfn := by kernel_rfl
theorem dz69 : dz Try.prog 69 = AV.nfn := by kernel_rfl
theorem tk70 : tk Try.prog 70 = TK.leaf := by kernel_rfl
theorem tz70 : tz Try.prog 70 = AV.nfn := by kernel_rfl
theorem dz70 : dz Try.prog 70 = AV.nfn := by kernel_rfl
theorem tk71 : tk Try.prog 71 = TK.leaf := by kernel_rfl
theorem tz71 : tz Try.prog 71 = AV.nfn := by kernel_rfl
theorem dz71 : dz Try.prog 71 = AV.nfn := by kernel_rfl
theorem tk72 : tk Try.prog 72 = TK.leaf := by kernel_rfl
theorem tz72 : tz Try.prog 72 = AV.nfn := by kernel_rfl
theorem dz72 : dz Try.prog 72 = AV.nfn := by kernel_rfl
theorem tk73 : tk Try.prog 73 = TK.leaf := by kernel_rfl
theorem tz73 : tz Try.prog 73 = AV.nfn := by kernel_rfl
theorem dz73 : dz Try.prog 73 = AV.nfn := by kernel_rfl
theorem tk74 : tk Try.prog 74 = TK.leaf := by kernel_rfl
theorem tz74 : tz Try.prog 74 = AV.nfn := by kernel_rfl
theorem dz74 : dz Try.prog 74 = AV.nfn := by kernel_rfl
theorem tk75 : tk Try.prog 75 = TK.leaf := by kernel_rfl
theorem tz75 : tz Try.prog 75 = AV.nfn := by kernel_rfl
theorem dz75 : dz Try.prog 75 = AV.nfn := by kernel_rfl
theorem tk76 : tk Try.prog 76 = TK.leaf := by kernel_rfl
theorem tz76 : tz Try.prog 76 = AV.nfn := by kernel_rfl
theorem dz76 : dz Try.prog 76 = AV.nfn := by kernel_rfl
theorem tk77 : tk Try.prog 77 = TK.leaf := by kernel_rfl
theorem tz77 : tz Try.prog 77 = AV.nfn := by kernel_rfl
theorem dz77 : dz Try.prog 77 = AV.nfn := by kernel_rfl
theorem tk78 : tk Try.prog 78 = TK.leaf := by kernel_rfl
theorem tz78 : tz Try.prog 78 = AV.nfn := by kernel_rfl
theorem dz78 : dz Try.prog 78 = AV.nfn := by kernel_rfl
theorem tk79 : tk Try.prog 79 = TK.leaf := by kernel_rfl
theorem tz79 : tz Try.prog 79 = AV.nfn := by kernel_rfl
theorem dz79 : dz Try.prog 79 = AV.nfn := by kernel_rfl
theorem tk80 : tk Try.prog 80 = TK.leaf := by kernel_rfl
theorem tz80 : tz Try.prog 80 = AV.nfn := by kernel_rfl
theorem dz80 : dz Try.prog 80 = AV.nfn := by kernel_rfl
theorem tk81 : tk Try.prog 81 = TK.leaf := by kernel_rfl
theorem tz81 : tz Try.prog 81 = AV.nfn := by kernel_rfl
theorem dz81 : dz Try.prog 81 = AV.nfn := by kernel_rfl
theorem tk82 : tk Try.prog 82 = TK.leaf := by kernel_rfl
theorem tz82 : tz Try.prog 82 = AV.nfn := by kernel_rfl
theorem dz82 : dz Try.prog 82 = AV.nfn := by kernel_rfl
theorem tk83 : tk Try.prog 83 = TK.leaf := by kernel_rfl
theorem tz83 : tz Try.prog 83 = AV.nfn := by kernel_rfl
theorem dz83 : dz Try.prog 83 = AV.nfn := by kernel_rfl
theorem tk84 : tk Try.prog 84 = TK.leaf := by kernel_rfl
theorem tz84 : tz Try.prog 84 = AV.nfn := by kernel_rfl
theorem dz84 : dz Try.prog 84 = AV.nfn := by kernel_rfl
theorem tk85 : tk Try.prog 85 = TK.leaf := by kernel_rfl
theorem tz85 : tz Try.prog 85 = AV.nfn := by kernel_rfl
theorem dz85 : dz Try.prog 85 = AV.nfn := by kernel_rfl
theorem tk86 : tk Try.prog 86 = TK.leaf := by kernel_rfl
theorem tz86 : tz Try.prog 86 = AV.nfn := by kernel_rfl
theorem dz86 : dz Try.prog 86 = AV.nfn := by kernel_rfl
theorem tk87 : tk Try.prog 87 = TK.leaf := by kernel_rfl
theorem tz87 : tz Try.prog 87 = AV.nfn := by kernel_rfl
theorem dz87 : dz Try.prog 87 = AV.nfn := by kernel_rfl
theorem tk88 : tk Try.prog 88 = TK.leaf := by kernel_rfl
theorem tz88 : tz Try.prog 88 = AV.nfn := by kernel_rfl
theorem dz88 : dz Try.prog 88 = AV.nfn := by kernel_rfl
theorem tk89 : tk Try.prog 89 = TK.leaf := by kernel_rfl
theorem tz89 : tz Try.prog 89 = AV.nfn := by kernel_rfl
theorem dz89 : dz Try.prog 89 = AV.nfn := by kernel_rfl
theorem tk90 : tk Try.prog 90 = TK.leaf := by kernel_rfl
theorem tz90 : tz Try.prog 90 = AV.nfn := by kernel_rfl
theorem dz90 : dz Try.prog 90 = AV.nfn := by kernel_rfl
theorem tk91 : tk Try.prog 91 = TK.leaf := by kernel_rfl
theorem tz91 : tz Try.prog 91 = AV.nfn := by kernel_rfl
theorem dz91 : dz Try.prog 91 = AV.nfn := by kernel_rfl
theorem tk92 : tk Try.prog 92 = TK.leaf := by kernel_rfl
theorem tz92 : tz Try.prog 92 = AV.nfn := by kernel_rfl
theorem dz92 : dz Try.prog 92 = AV.nfn := by kernel_rfl
theorem tk93 : tk Try.prog 93 = TK.slice 22 1 := by kernel_rfl
theorem tz93 : tz Try.prog 93 = AV.nls := by kernel_rfl
theorem dz93 : dz Try.prog 93 = AV.sl 1 [] := by kernel_rfl
theorem eb93 : eb Try.prog 93 = some 24 := by kernel_rfl
theorem tk94 : tk Try.prog 94 = TK.leaf := by kernel_rfl
theorem tz94 : tz Try.prog 94 = AV.nfn := by kernel_rfl
theorem dz94 : dz Try.prog 94 = AV.nfn := by kernel_rfl
theorem tk95 : tk Try.prog 95 = TK.int IntKind.u64 := by kernel_rfl
theorem tz95 : tz Try.prog 95 = AV.int IntKind.u64 0 := by kernel_rfl
theorem dz95 : dz Try.prog 95 = AV.int IntKind.u64 0 := by kernel_rfl
theorem eb95 : eb Try.prog 95 = some 8 := by kernel_rfl
theorem eq95 : eqK Try.prog 95 = some [1] := by kernel_rfl
theorem tk97 : tk Try.prog 97 = TK.leaf := by kernel_rfl
theorem tz97 : tz Try.prog 97 = AV.nfn := by kernel_rfl
theorem dz97 : dz Try.prog 97 = AV.nfn := by kernel_rfl
theorem tk98 : tk Try.prog 98 = TK.leaf := by kernel_rfl
theorem tk99 : tk Try.prog 99 = TK.struct 2 [some (0, 1), some (1, 1)] := by kernel_rfl
theorem tz99 : tz Try.prog 99 = AV.agg [AV.top, AV.nls] := by kernel_rfl
theorem dz99 : dz Try.prog 99 = AV.agg [AV.top, AV.sl 1 []] := by kernel_rfl
theorem eb99 : eb Try.prog 99 = some 32 := by kernel_rfl
theorem tk100 : tk Try.prog 100 = TK.struct 2 [some (0, 1), some (1, 1)] := by kernel_rfl
theorem tz100 : tz Try.prog 100 = AV.agg [AV.top, AV.nls] := by kernel_rfl
theorem dz100 : dz Try.prog 100 = AV.agg [AV.top, AV.sl 1 []] := by kernel_rfl
theorem eb100 : eb Try.prog 100 = some 32 := by kernel_rfl
theorem tk101 : tk Try.prog 101 = TK.leaf := by kernel_rfl
theorem tz101 : tz Try.prog 101 = AV.nfn := by kernel_rfl
theorem dz101 : dz Try.prog 101 = AV.nfn := by kernel_rfl
theorem tk102 : tk Try.prog 102 = TK.leaf := by kernel_rfl
theorem tk103 : tk Try.prog 103 = TK.leaf := by kernel_rfl
theorem tk105 : tk Try.prog 105 = TK.leaf := by kernel_rfl
theorem tz105 : tz Try.prog 105 = AV.nfn := by kernel_rfl
theorem dz105 : dz Try.prog 105 = AV.nfn := by kernel_rfl
theorem tk106 : tk Try.prog 106 = TK.leaf := by kernel_rfl
theorem tz106 : tz Try.prog 106 = AV.nfn := by kernel_rfl
theorem dz106 : dz Try.prog 106 = AV.nfn := by kernel_rfl
theorem tk107 : tk Try.prog 107 = TK.leaf := by kernel_rfl
theorem tz107 : tz Try.prog 107 = AV.nfn := by kernel_rfl
theorem dz107 : dz Try.prog 107 = AV.nfn := by kernel_rfl
theorem tk108 : tk Try.prog 108 = TK.leaf := by kernel_rfl
theorem tz108 : tz Try.prog 108 = AV.nfn := by kernel_rfl
theorem dz108 : dz Try.prog 108 = AV.nfn := by kernel_rfl
theorem tk109 : tk Try.prog 109 = TK.leaf := by kernel_rfl
theorem tz109 : tz Try.prog 109 = AV.nfn := by kernel_rfl
theorem dz109 : dz Try.prog 109 = AV.nfn := by kernel_rfl
theorem tk110 : tk Try.prog 110 = TK.int IntKind.u32 := by kernel_rfl
theorem tz110 : tz Try.prog 110 = AV.int IntKind.u32 0 := by kernel_rfl
theorem dz110 : dz Try.prog 110 = AV.int IntKind.u32 0 := by kernel_rfl
theorem eb110 : eb Try.prog 110 = some 4 := by kernel_rfl
theorem eq110 : eqK Try.prog 110 = some [1] := by kernel_rfl
theorem tk112 : tk Try.prog 112 = TK.leaf := by kernel_rfl
theorem tz112 : tz Try.prog 112 = AV.nfn := by kernel_rfl
theorem dz112 : dz Try.prog 112 = AV.nfn := by kernel_rfl
theorem tk113 : tk Try.prog 113 = TK.int IntKind.u64 := by kernel_rfl
theorem tz113 : tz Try.prog 113 = AV.int IntKind.u64 0 := by kernel_rfl
theorem dz113 : dz Try.prog 113 = AV.int IntKind.u64 0 := by kernel_rfl
theorem eb113 : eb Try.prog 113 = some 8 := by kernel_rfl
theorem eq113 : eqK Try.prog 113 = some [1] := by kernel_rfl
theorem tk115 : tk Try.prog 115 = TK.leaf := by kernel_rfl
theorem tz115 : tz Try.prog 115 = AV.nfn := by kernel_rfl
theorem dz115 : dz Try.prog 115 = AV.nfn := by kernel_rfl
theorem tk116 : tk Try.prog 116 = TK.leaf := by kernel_rfl
theorem tk117 : tk Try.prog 117 = TK.leaf := by kernel_rfl
theorem tz117 : tz Try.prog 117 = AV.nfn := by kernel_rfl
theorem dz117 : dz Try.prog 117 = AV.nfn := by kernel_rfl
theorem tk119 : tk Try.prog 119 = TK.leaf := by kernel_rfl
theorem tz119 : tz Try.prog 119 = AV.nfn := by kernel_rfl
theorem dz119 : dz Try.prog 119 = AV.nfn := by kernel_rfl
theorem tk120 : tk Try.prog 120 = TK.leaf := by kernel_rfl
theorem tz120 : tz Try.prog 120 = AV.nfn := by kernel_rfl
theorem dz120 : dz Try.prog 120 = AV.nfn := by kernel_rfl
theorem tk121 : tk Try.prog 121 = TK.struct 4 [some (0, 1), some (1, 1), some (2, 1), some (3, 1)] := by kernel_rfl
theorem tz121 : tz Try.prog 121 = AV.agg [AV.top, AV.top, AV.top, AV.str []] := by kernel_rfl
theorem dz121 : dz Try.prog 121 = AV.agg [AV.top, AV.top, AV.top, AV.str []] := by kernel_rfl
theorem eb121 : eb Try.prog 121 = some 40 := by kernel_rfl
theorem tk122 : tk Try.prog 122 = TK.struct 4 [some (0, 1), some (1, 1), some (2, 1), some (3, 1)] := by kernel_rfl
theorem tz122 : tz Try.prog 122 = AV.agg [AV.top, AV.top, AV.top, AV.str []] := by kernel_rfl
theorem dz122 : dz Try.prog 122 = AV.agg [AV.top, AV.top, AV.top, AV.str []] := by kernel_rfl
theorem eb122 : eb Try.prog 122 = some 40 := by kernel_rfl
theorem tk123 : tk Try.prog 123 = TK.arr 0 16 1 0 := by kernel_rfl
theorem tz123 : tz Try.prog 123 = AV.agg [] := by kernel_rfl
theorem dz123 : dz Try.prog 123 = AV.agg [] := by kernel_rfl
theorem tk124 : tk Try.prog 124 = TK.struct 0 [none] := by kernel_rfl
theorem tz124 : tz Try.prog 124 = AV.agg [] := by kernel_rfl
theorem dz124 : dz Try.prog 124 = AV.agg [] := by kernel_rfl
theorem tk125 : tk Try.prog 125 = TK.struct 0 [none] := by kernel_rfl
theorem tz125 : tz Try.prog 125 = AV.agg [] := by kernel_rfl
theorem dz125 : dz Try.prog 125 = AV.agg [] := by kernel_rfl
theorem tk126 : tk Try.prog 126 = TK.int IntKind.u8 := by kernel_rfl
theorem tz126 : tz Try.prog 126 = AV.int IntKind.u8 0 := by kernel_rfl
theorem dz126 : dz Try.prog 126 = AV.int IntKind.u8 0 := by kernel_rfl
theorem eb126 : eb Try.prog 126 = some 1 := by kernel_rfl
theorem eq126 : eqK Try.prog 126 = some [1] := by kernel_rfl
theorem tk127 : tk Try.prog 127 = TK.int IntKind.u8 := by kernel_rfl
theorem tz127 : tz Try.prog 127 = AV.int IntKind.u8 0 := by kernel_rfl
theorem dz127 : dz Try.prog 127 = AV.int IntKind.u8 0 := by kernel_rfl
theorem eb127 : eb Try.prog 127 = some 1 := by kernel_rfl
theorem eq127 : eqK Try.prog 127 = some [1] := by kernel_rfl
theorem tk128 : tk Try.prog 128 = TK.leaf := by kernel_rfl
theorem tz128 : tz Try.prog 128 = AV.nfn := by kernel_rfl
theorem dz128 : dz Try.prog 128 = AV.nfn := by kernel_rfl
theorem tk129 : tk Try.prog 129 = TK.int IntKind.i32 := by kernel_rfl
theorem tz129 : tz Try.prog 129 = AV.int IntKind.i32 0 := by kernel_rfl
theorem dz129 : dz Try.prog 129 = AV.int IntKind.i32 0 := by kernel_rfl
theorem eb129 : eb Try.prog 129 = some 4 := by kernel_rfl
theorem eq129 : eqK Try.prog 129 = some [1] := by kernel_rfl
theorem tk130 : tk Try.prog 130 = TK.int IntKind.i32 := by kernel_rfl
theorem tz130 : tz Try.prog 130 = AV.int IntKind.i32 0 := by kernel_rfl
theorem dz130 : dz Try.prog 130 = AV.int IntKind.i32 0 := by kernel_rfl
theorem eb130 : eb Try.prog 130 = some 4 := by kernel_rfl
theorem eq130 : eqK Try.prog 130 = some [1] := by kernel_rfl
theorem tk131 : tk Try.prog 131 = TK.struct 11 [some (0, 1), some (1, 1), some (2, 1), some (3, 1), some (4, 1), some (5, 1), some (6, 1), some (7, 1), some (8, 1), some (9, 1), some (10, 1)] := by kernel_rfl
theorem tz131 : tz Try.prog 131 = AV.agg [AV.int IntKind.u64 0, AV.int IntKind.u64 0, AV.int IntKind.u32 0, AV.int IntKind.u8 0, AV.int IntKind.u8 0, AV.int IntKind.u8 0, AV.int IntKind.u8 0, AV.nfn, AV.top, AV.int IntKind.i32 0, AV.int IntKind.i32 0] := by kernel_rfl
theorem dz131 : dz Try.prog 131 = AV.agg [AV.int IntKind.u64 0, AV.int IntKind.u64 0, AV.int IntKind.u32 0, AV.int IntKind.u8 0, AV.int IntKind.u8 0, AV.int IntKind.u8 0, AV.int IntKind.u8 0, AV.nfn, AV.top, AV.int IntKind.i32 0, AV.int IntKind.i32 0] := by kernel_rfl
theorem eb131 : eb Try.prog 131 = some 48 := by kernel_rfl
theorem tk132 : tk Try.prog 132 = TK.struct 11 [some (0, 1), some (1, 1), some (2, 1), some (3, 1), some (4, 1), some (5, 1), some (6, 1), some (7, 1), some (8, 1), some (9, 1), some (10, 1)] := by kernel_rfl
theorem tz132 : tz Try.prog 132 = AV.agg [AV.int IntKind.u64 0, AV.int IntKind.u64 0, AV.int IntKind.u32 0, AV.int IntKind.u8 0, AV.int IntKind.u8 0, AV.int IntKind.u8 0, AV.int IntKind.u8 0, AV.nfn, AV.top, AV.int IntKind.i32 0, AV.int IntKind.i32 0] := by kernel_rfl
theorem dz132 : dz Try.prog 132 = AV.agg [AV.int IntKind.u64 0, AV.int IntKind.u64 0, AV.int IntKind.u32 0, AV.int IntKind.u8 0, AV.int IntKind.u8 0, AV.int IntKind.u8 0, AV.int IntKind.u8 0, AV.nfn, AV.top, AV.int IntKind.i32 0, AV.int IntKind.i32 0] := by kernel_rfl
theorem eb132 : eb Try.prog 132 = some 48 := by kernel_rfl
end Go.Pg
namespace Go.Pg
open Go Go.Proofs

theorem eq_of_takes {a b : List (List UInt8)} (h : a.length = b.length) (ht : a.take a.length = b.take a.length) : a = b := by
  rw [List.take_length] at ht
  rw [h, List.take_length] at ht
  exact ht

theorem take_succ_eq {a b : List (List UInt8)} {i : Nat} (h : a.take i = b.take i) (ha : i < a.length) (hb : i < b.length) (he : a.getD i [] = b.getD i []) : a.take (i + 1) = b.take (i + 1) := by
  simp only [List.getD_eq_getElem?_getD, List.getElem?_eq_getElem ha, List.getElem?_eq_getElem hb, Option.getD_some] at he
  rw [List.take_succ_eq_append_getElem ha, List.take_succ_eq_append_getElem hb, h, he]

theorem calls_Strings (a b : List (List UInt8)) (ha : a.length ≤ 140737488355328) (hb : b.length ≤ 140737488355328) :
    CallsR Try.prog 20 [.sl 1 (a.map .str), .sl 1 (b.map .str)] [] (.bool (a == b)) [] := by
  refine callsR_of (mrg := true) (dyn := []) (CtrOK.nil _) mixed Try.func20 rfl (by simp [Try.ntmps20]) (by kernel_rfl) ?_
  rw [show Try.f20.results.toList = [.tmp 4] from by kernel_rfl]
  simp (maxSteps := 4000000) only [↓wpA_H, ↓wpH_skip, ↓wpH_ret, ↓wpH_seq, ↓wpH_cond, ↓wpH_block, ↓wpH_loop, ↓wpH_region, iselH_if, bselH_false, runH_nil, runH_cons, gw, gselH_plain, cselH_bool, ↓chk, justK, ↓oneK, ↓pureK, envOf, ↓thenA_normal, ↓thenA_ret, ↓stepEv, opnd, Pg.look, binK, intOp, Bool.false_eq_true, implies_true, true_and, and_true, valV, heapV, footV, binV, intV, ofV, ofLeaf, retA, resK, tupA, subA, subQ, ptrsE, frzO, subF, subG, pickOf, frzE, frzC, frz0, frzH, Pg.freeze, List.foldl_nil, subOs, subEv, subV_succ, subM, slen, Option.getD_some, reduceCtorEq, Nat.reduceEqDiff, List.append_nil, List.length_nil, Nat.zero_add, ite_true, ite_false, Option.some.injEq, AV.int.injEq, and_self, exists_eq_left', pickOK_nil, List.length_map, List.contains_nil, tk22]
  refine ⟨fun h => ?_, fun h => ?_⟩
  · symm
    rw [beq_eq_false_iff_ne]
    intro e
    subst e
    simp at h
  have hlen : a.length = b.length := by
    simp at h
    omega
  refine loopH_intro (α := Nat) (fun i => ([(0, .sl 1 (a.map .str)), (1, .sl 1 (b.map .str)), (4, .bool false), (5, .int .i64 i)], [])) (fun i => i ≤ a.length ∧ a.take i = b.take i) (fun i => a.length - i) 0 ?_ ?_ ?_
  · simp
  · simp (maxSteps := 4000000) only [Pg.look, subA, subQ, ptrsE, frzO, subF, subG, pickOf, frzE, frzC, frz0, frzH, Pg.freeze, List.foldl_nil, subOs, subEv, subV_succ, subM, reduceCtorEq, Nat.reduceEqDiff, List.append_nil, ite_true, ite_false, and_self, pickOK_nil, Int.cast_ofNat_Int]
    all_goals simp
  · intro i hi
    simp (maxSteps := 4000000) only [↓wpA_H, ↓wpH_skip, ↓wpH_ret, ↓wpH_exit, ↓wpH_seq, ↓wpH_cond, ↓wpH_block, ↓wpH_region, iselH_if, bselH_false, runH_nil, runH_cons, gw, gselH_plain, cselH_bool, ↓chk, justK, noW, ↓oneK, ↓pureK, ↓heapK, ↓thenA_normal, ↓thenA_ret, ↓thenA_exit, ↓blockA_normal, ↓blockA_ret, ↓blockA_exit, ↓stepEv, opnd, Pg.look, binK, intOp, strOp, Bool.false_eq_true, implies_true, true_and, and_true, valV, heapV, footV, binV, intV, strV, ofV, ofLeaf, retA, resK, tupA, subA, subQ, ptrsE, frzO, subF, subG, pickOf, frzE, frzC, frz0, frzH, Pg.freeze, List.foldl_nil, subOs, subEv, subV_succ, subM, slen, ldCells, AV.cells, TK.cells, List.getElem?_cons_zero, Option.getD_some, reduceCtorEq, Nat.reduceEqDiff, List.append_nil, List.length_nil, ite_true, ite_false, Option.some.injEq, AV.int.injEq, decide_eq_true_eq, decide_eq_false_iff_not, Int.not_lt, and_self, Bool.not_eq_true', exists_eq_left', pickOK_nil, List.length_map, List.contains_nil, getD_str, Int.toNat_natCast, tk9, dz9, tk22]
    refine ⟨fun h1 => ⟨⟨by omega, by omega⟩, ⟨by omega, by omega⟩, fun h2 => ?_, fun h2 => ⟨i + 1, ⟨by omega, take_succ_eq hi.2 (by omega) (by omega) (by simpa using h2)⟩, by omega, by rw [wrap64 (by omega) (by omega)]; omega⟩⟩, fun h1 => ?_⟩
    · symm
      rw [beq_eq_false_iff_ne]
      intro e
      subst e
      simp at h2
    · symm
      rw [beq_iff_eq]
      have : i = a.length := by omega
      subst this
      exact eq_of_takes hlen hi.2

def kStrings : C1 := C1.by [.sl 1 [], .sl 1 []] (lCons cStrs (lOne cStrs)) (fun d => d.1.length ≤ 140737488355328 ∧ d.2.length ≤ 140737488355328) (fun d => .bool (d.1 == d.2)) (fun _ => [])
theorem ok_Strings : C1OK Try.prog 20 kStrings :=
  C1OK.by (by kernel_rfl) (fun d h => calls_Strings d.1 d.2 h.1 h.2) (fun _ => rfl) (fun _ => rfl)

end Go.Pg
namespace Go.Pg
open Go Go.Proofs

def letter (n : Int) : Bool := decide (n ≥ 32) && (n != 127) || (n == 9)

def place (ls : List (List UInt8)) (l c : Int) : Bool :=
  decide (l ≥ 0) && decide (l < ls.length) && decide (c ≥ 0) && decide (c ≤ (ls.getD l.toNat []).length)

theorem calls_Place (ls : List (List UInt8)) (l c : Int) : CallsR Try.prog 39 [.sl 1 (ls.map .str), .agg [.int .i64 l, .int .i64 c]] [] (.bool (place ls l c)) [] := by
  refine callsR_of (mrg := true) (dyn := []) (CtrOK.nil _) mixed Try.func39 rfl (by simp [Try.ntmps39]) (by kernel_rfl) ?_
  rw [show Try.f39.results.toList = [.tmp 4] from by kernel_rfl]
  simp (maxSteps := 4000000) only [↓wpA_H, ↓wpH_ret, ↓wpH_seq, ↓wpH_region, bselH_false, runH_nil, runH_cons, gw, gselH_plain, gselH_if, kselH_1, gkind, ↓chk, justK, noW, ↓oneK, ↓pureK, ↓heapK, envOf, ↓thenA_normal, ↓stepEv, opnd, Pg.look, binK, intOp, dstOf, Bool.false_eq_true, implies_true, imp_self, true_and, and_true, pickC, pickV, unc, gof, mux, mergeK, condsL, valV, heapV, footV, binV, intV, mergeable, look_stripE, ofV, ofLeaf, sameK, retA, resK, tupA, subA, subQ, ptrsE, frzO, subF, subG, pickOf, frzE, frzC, frz0, frzH, Pg.freeze, List.foldl_nil, subOs, subEv, subV_succ, subM, slen, ldCells, objAt, AV.cells, TK.cells, AV.definite, Op.operands, Call.operands, Array.toList_append, List.getElem?_toArray, List.getElem?_cons_succ, List.getElem?_cons_zero, Option.bind_some, Option.getD_some, reduceCtorEq, Nat.reduceEqDiff, Nat.reduceAdd, List.nil_append, List.append_nil, List.length_cons, List.length_nil, Nat.zero_add, ite_true, ite_false, Option.some.injEq, AV.int.injEq, Bool.if_false_right, Bool.decide_eq_true, decide_eq_true_eq, decide_eq_false_iff_not, Int.not_le, Bool.and_self, and_self, exists_eq_left', pickOK_nil, List.length_map, List.toList_toArray, List.contains_nil, getD_str, List.getD_cons_zero, Nat.add_zero, Nat.zero_lt_succ, tk3, tk9, dz9, tk22, tk27, dz27]
  refine ⟨fun h => ?_, rfl⟩
  have h' := h
  simp at h'
  exact ⟨h, by omega, by omega⟩

theorem calls_RPlace (ls : List (List UInt8)) (l c : Int) : CallsR Try.prog 51 [.sl 1 (ls.map .str), .agg [.int .i64 l, .int .i64 c]] [] (.bool (place ls l c)) [] := by
  refine callsR_of (mrg := true) (dyn := []) (CtrOK.nil _) mixed Try.func51 rfl (by simp [Try.ntmps51]) (by kernel_rfl) ?_
  rw [show Try.f51.results.toList = [.tmp 4] from by kernel_rfl]
  simp (maxSteps := 4000000) only [↓wpA_H, ↓wpH_ret, ↓wpH_seq, ↓wpH_region, bselH_false, runH_nil, runH_cons, gw, gselH_plain, gselH_if, kselH_1, gkind, ↓chk, justK, noW, ↓oneK, ↓pureK, ↓heapK, envOf, ↓thenA_normal, ↓stepEv, opnd, Pg.look, binK, intOp, dstOf, Bool.false_eq_true, implies_true, imp_self, true_and, and_true, pickC, pickV, unc, gof, mux, mergeK, condsL, valV, heapV, footV, binV, intV, mergeable, look_stripE, ofV, ofLeaf, sameK, retA, resK, tupA, subA, subQ, ptrsE, frzO, subF, subG, pickOf, frzE, frzC, frz0, frzH, Pg.freeze, List.foldl_nil, subOs, subEv, subV_succ, subM, slen, ldCells, objAt, AV.cells, TK.cells, AV.definite, Op.operands, Call.operands, Array.toList_append, List.getElem?_toArray, List.getElem?_cons_succ, List.getElem?_cons_zero, Option.bind_some, Option.getD_some, reduceCtorEq, Nat.reduceEqDiff, Nat.reduceAdd, List.nil_append, List.append_nil, List.length_cons, List.length_nil, Nat.zero_add, ite_true, ite_false, Option.some.injEq, AV.int.injEq, Bool.if_false_right, Bool.decide_eq_true, decide_eq_true_eq, decide_eq_false_iff_not, Int.not_le, Bool.and_self, and_self, exists_eq_left', pickOK_nil, List.length_map, List.toList_toArray, List.contains_nil, getD_str, List.getD_cons_zero, Nat.add_zero, Nat.zero_lt_succ, tk3, tk9, dz9, tk22, tk27, dz27]
  refine ⟨fun h => ?_, rfl⟩
  have h' := h
  simp at h'
  exact ⟨h, by omega, by omega⟩

end Go.Pg
namespace Go.Pg
open Go Go.Proofs

theorem calls_Clone (ls : List (List UInt8)) (hb : ls.length ≤ 4398046511104) : CallsR Try.prog 47 [.sl 1 (ls.map .str)] [] (.own 0 1 ls.length) [.arr 9 1 (ls.map .str)] := by
  refine callsR_ofW Try.func47 rfl (by simp [Try.ntmps47]) fun E hr => ?_
  rw [show Try.f47.results.toList = [.tmp 2] from by kernel_rfl]
  refine AWp.seq (wpA_sound (C := []) (mrg := true) (dyn := []) (CtrOK.nil _) mixed hr _ _ _ _ (by kernel_rfl) ?_)
  simp (maxSteps := 4000000) only [↓wpA_H, ↓wpH_region, bselH_false, runH_nil, runH_cons, gw, gselH_plain, ↓chk, justK, ↓oneK, ↓pureK, envOf, ↓thenA_normal, ↓stepEv, opnd, Bool.false_eq_true, implies_true, true_and, valV, heapV, footV, ofV, ofLeaf, List.length_nil, and_self, List.contains_nil]
  refine AWp.seq (AWp.seq (AWp.isNil (z := 1) (vs := ls.map .str) Try.underlying22 (by simp [Try.ntmps47]) (by simp [Try.ntmps47]) (by simp [Pg.look]) fun b hbn => ?_))
  refine wpA_sound (C := []) (mrg := true) (dyn := []) (CtrOK.nil _) mixed hr _ _ _ _ (by kernel_rfl) ?_
  simp (maxSteps := 4000000) only [↓wpA_H, ↓wpH_skip, ↓wpH_ret, ↓wpH_seq, ↓wpH_cond, ↓wpH_region, iselH_if, bselH_false, runH_nil, runH_cons, gw, gselH_plain, cselH_bool, ↓chk, justK, ↓oneK, ↓pureK, ↓thenA_normal, ↓thenA_ret, ↓stepEv, opnd, Pg.look, Bool.false_eq_true, implies_true, true_and, valV, heapV, footV, ofV, ofLeaf, reduceCtorEq, Nat.reduceEqDiff, ite_true, ite_false, and_self, List.contains_nil]
  refine ⟨fun hb1 => retA_S _ _ _ ?_, fun hb1 => wpA_sound (C := []) (mrg := true) (dyn := []) (CtrOK.nil _) mixed hr _ _ _ _ (by kernel_rfl) (wpA_mono _ _ _ _ _ (fun e ev H h => retA_S e ev H h) ?_)⟩
  · have h0 : ls = [] := by simpa using hbn hb1
    subst h0
    simp (maxSteps := 4000000) only [Pg.look, retA, resK, tupA, subA, subQ, ptrsE, pairsO, frzO, subF, subG, pickOf, assocN, pairsE, pairsC, pairs0, frzE, frzC, frz0, frzH, Pg.freeze, List.foldl_nil, subOs, subO, subEv, subV_succ, subM, List.getElem?_cons_zero, reduceCtorEq, Nat.reduceEqDiff, List.append_nil, List.length_nil, List.map_nil, ite_true, ite_false, and_self, pickOK_one, Nat.lt_irrefl]
  · simp (maxSteps := 4000000) only [↓wpA_H, ↓wpH_ret, ↓wpH_seq, ↓wpH_region, bselH_false, runH_nil, runH_cons, gw, gselH_plain, ↓chk, justK, noW, ↓oneK, ↓pureK, ↓heapK, ↓thenA_normal, ↓stepEv, opnd, Pg.look, Bool.false_eq_true, implies_true, true_and, and_true, valV, heapV, footV, ofV, ofLeaf, retA, resK, tupA, subA, subQ, ptrsE, pairsO, frzO, subF, subG, pickOf, assocN, pairsE, pairsC, pairs0, frzE, frzC, frz0, frzH, Pg.freeze, List.foldl_nil, subOs, subO, subEv, subV_succ, subM, srcV, srcE, appK, AV.cells, AV.definite, List.getElem?_cons_zero, reduceCtorEq, Nat.reduceEqDiff, List.nil_append, List.append_nil, List.length_nil, List.map_nil, List.set_cons_zero, Nat.zero_add, ite_true, ite_false, Option.isSome_some, not_false_eq_true, List.all_nil, and_self, pickOK_one, List.length_map, not_mem_nil, List.range_zero, leafy_strs, List.contains_nil, Nat.reducePow, Nat.lt_irrefl, Nat.mul_one, Nat.zero_le, eb9, tk22]
    exact ⟨by omega, .inl ⟨rfl, pureB_strs ls⟩⟩

def kClone : C1 := C1.by [.sl 1 []] (lOne cStrs) (fun d => d.length ≤ 4398046511104) (fun d => .own 0 1 d.length) (fun d => [.arr 9 1 (d.map .str)])
theorem ok_Clone : C1OK Try.prog 47 kClone :=
  C1OK.by (by kernel_rfl) (fun d h => calls_Clone d h) (fun _ => rfl) (fun _ => by simp [okObj, AV.pureB, AV.cells, AV.pureLeaf])

theorem calls_changed (ls new : List (List UInt8)) (i n : Int) (h1 : 0 ≤ i) (h2 : 0 ≤ n) (h3 : i + n ≤ ls.length) (hb : ls.length ≤ 4398046511104) :
    CallsR Try.prog 60 [.sl 1 (ls.map .str), .int .i64 i, .int .i64 n, .sl 1 (new.map .str)] []
      (.agg [.int .i64 i, .sl 1 ((cutL ls i.toNat (i + n).toNat).map .str), .sl 1 (new.map .str)]) [] := by
  refine callsR_of (mrg := true) (dyn := []) (CtrOK.cons ok_Clone (CtrOK.nil _)) mixed Try.func60 rfl (by simp [Try.ntmps60]) (by kernel_rfl) ?_
  rw [show Try.f60.results.toList = [.cell 8 35] from by kernel_rfl]
  simp (maxSteps := 4000000) only [↓wpA_H, ↓wpH_ret, ↓wpH_seq, ↓wpH_region, bselH_false, runH_nil, runH_cons, gw, gselH_plain, ↓chk, justK, noW, ↓oneK, ↓pureK, ↓heapK, envOf, ↓thenA_normal, ↓stepEv, opnd, Pg.look, binK, intOp, Bool.false_eq_true, implies_true, true_and, and_true, valV, heapV, footV, binV, intV, cutV, ofV, ofLeaf, retA, resK, tupA, subA, subQ, ptrsE, frzO, subF, subG, pickOf, frzE, frzC, frzL, frz0, frzH, Pg.freeze, List.foldl_nil, List.foldl_cons, subOs, subEv, subV_succ, subM, subL, ldCells, objAt, sliceL, ↓callT, callC, callV, callH, normArgs, normA, normC, resL, res8_eq, res_succ, resM, shiftR, shift1, AV.cells, TK.cells, AV.definite, AV.leaf, AV.leafy, putCells, lay, buildL, frzAt, List.getElem?_cons_succ, List.getElem?_cons_zero, Option.map_some, Option.map_none, Option.getD_some, reduceCtorEq, Nat.reduceEqDiff, Nat.reduceAdd, List.nil_append, List.append_nil, List.cons_append, List.length_cons, List.length_nil, List.map_cons, List.map_nil, List.set_cons_zero, List.set_cons_succ, Nat.zero_add, ite_true, ite_false, Option.some.injEq, Option.isSome_some, AV.sl.injEq, AV.agg.injEq, List.all_cons, List.all_nil, Bool.and_self, and_self, exists_eq_left', pickOK_nil, List.length_map, cSl_dec, lOne_dec, pureB_strs, resIn, List.contains_cons, List.contains_nil, Bool.or_false, beq_self_eq_true, decL_str, C1by_ns, C1by_pre, C1by_r, C1by_H, optP_some, optV_some, optH_some, ← List.map_drop, ← List.map_take, List.getD_cons_zero, cutL, List.drop_zero, List.drop_succ_cons, List.take_succ_cons, List.take_zero, Nat.add_zero, Nat.sub_zero, Nat.reduceLeDiff, Nat.le_refl, List.drop_nil, List.take_nil, Nat.zero_lt_succ, tk22, tk35, tz35, dz35, kClone]
  have hw : IntKind.i64.wrap (i + n) = i + n := wrap64 (by omega) (by omega)
  rw [hw]
  refine ⟨⟨h1, by omega, h3⟩, ?_, rfl⟩
  rw [List.length_take, List.length_drop]
  omega

end Go.Pg
namespace Go.Pg
open Go Go.Proofs

def kPlace : C1 := C1.by [.sl 1 [], .id] (lCons cStrs (lOne (cAgg (lCons (cInt .i64) (lOne (cInt .i64)))))) (fun _ => True) (fun d => .bool (place d.1 d.2.1 d.2.2)) (fun _ => [])
theorem ok_Place : C1OK Try.prog 39 kPlace := C1OK.by (by kernel_rfl) (fun d _ => calls_Place d.1 d.2.1 d.2.2) (fun _ => rfl) (fun _ => rfl)

def kChanged : C1 := C1.by [.sl 1 [], .id, .id, .sl 1 []] (lCons cStrs (lCons (cInt .i64) (lCons (cInt .i64) (lOne cStrs))))
  (fun d => 0 ≤ d.2.1 ∧ 0 ≤ d.2.2.1 ∧ d.2.1 + d.2.2.1 ≤ d.1.length ∧ d.1.length ≤ 4398046511104)
  (fun d => .agg [.int .i64 d.2.1, .sl 1 ((cutL d.1 d.2.1.toNat (d.2.1 + d.2.2.1).toNat).map .str), .sl 1 (d.2.2.2.map .str)]) (fun _ => [])
theorem ok_changed : C1OK Try.prog 60 kChanged :=
  C1OK.by (by kernel_rfl) (fun d h => calls_changed d.1 d.2.2.2 d.2.1 d.2.2.1 h.1 h.2.1 h.2.2.1 h.2.2.2) (fun _ => rfl) (fun _ => rfl)

abbrev Ls := List (List UInt8)
def aPos (p : Int × Int) : AV := .agg [.int .i64 p.1, .int .i64 p.2]
def aCh (x : Int × Ls × Ls) : AV := .agg [.int .i64 x.1, .sl 1 (x.2.1.map .str), .sl 1 (x.2.2.map .str)]

theorem getD_ch (l : List (Int × Ls × Ls)) (i : Nat) : (l.map aCh).getD i (.agg [.int .i64 0, .sl 1 [], .sl 1 []]) = aCh (l.getD i (0, [], [])) := getD_map aCh l i (0, [], [])
theorem getD_pos (l : List (Int × Int)) (i : Nat) : (l.map aPos).getD i (.agg [.int .i64 0, .int .i64 0]) = aPos (l.getD i (0, 0)) := getD_map aPos l i (0, 0)

/-- Few lines, none of them long. -/
def small (ls : Ls) : Prop := ls.length ≤ 1099511627776 ∧ ∀ i, (ls.getD i []).length ≤ 1099511627776

theorem place_iff (ls : Ls) (l c : Int) : place ls l c = true ↔ 0 ≤ l ∧ l.toNat < ls.length ∧ 0 ≤ c ∧ c ≤ (ls.getD l.toNat []).length := by
  simp only [place, Bool.and_eq_true, decide_eq_true_eq]
  omega

def write (ls : Ls) (l c : Int) (text : Ls) : (Int × Ls × Ls) × (Int × Int) × Bool :=
  if (place ls l c && decide (0 < text.length)) = true then
    let s := ls.getD l.toNat []
    let t0 := text.set 0 (s.take c.toNat ++ text.getD 0 [])
    let k := text.length - 1
    ((l, [s], t0.set k (t0.getD k [] ++ s.drop c.toNat)), (l + k, (t0.getD k []).length), true)
  else ((0, [], []), (0, 0), false)

set_option maxRecDepth 20000 in
set_option maxHeartbeats 4000000 in
theorem calls_Write (ls text : Ls) (l c : Int) (hb : small ls) (ht : small text) :
    CallsR Try.prog 74 [.sl 1 (ls.map .str), .agg [.int .i64 l, .int .i64 c], .sl 1 (text.map .str)] []
      (.tuple [aCh (write ls l c text).1, aPos (write ls l c text).2.1, .bool (write ls l c text).2.2]) [] := by
  refine callsR_of (mrg := true) (dyn := [9]) (CtrOK.cons ok_Place (CtrOK.cons ok_changed (CtrOK.cons ok_Clone (CtrOK.nil _)))) mixed Try.func74 rfl (by simp [Try.ntmps74]) (by kernel_rfl) ?_
  rw [show Try.f74.results.toList = [.cell 6 35, .cell 7 27, .tmp 8] from by kernel_rfl]
  simp (maxSteps := 4000000) only [↓wpA_H, ↓wpH_skip, ↓wpH_ret, ↓wpH_seq, ↓wpH_cond, ↓wpH_region, bselH_true, iselH_if, bselH_false, runH_nil, runH_cons, gw, gselH_plain, gselH_if, kselH_1, cselH_bool, gkind, ↓chk, justK, noW, ↓oneK, ↓pureK, ↓heapK, envOf, ↓thenA_normal, ↓thenA_ret, ↓stepEv, opnd, Pg.look, binK, intOp, strOp, dstOf, Bool.false_eq_true, false_implies, implies_true, imp_self, true_and, and_true, forall_const, pickC, pickV, unc, gof, mux, mergeK, condsL, valV, heapV, footV, binV, intV, strV, cutV, mergeable, look_stripE, ofV, ofLeaf, sameK, retA, resK, tupA, subA, subQ, ptrsE, frzO, subF, subG, pickOf, frzE, frzC, frzL, frz0, frzH, Pg.freeze, List.foldl_nil, List.foldl_cons, subOs, subEv, subV_succ, subM, subL, slen, ldCells, objAt, sliceS, ↓callT, callC, callV, callH, normArgs, normA, normC, resL, res8_eq, res_succ, resM, shiftR, shift1, AV.cells, TK.cells, AV.definite, AV.leaf, AV.leafy, putCells, lay, buildL, frzAt, Op.operands, Call.operands, Array.toList_append, List.getElem?_toArray, List.getElem?_cons_succ, List.getElem?_cons_zero, Option.bind_some, Option.map_some, Option.map_none, Option.getD_some, reduceCtorEq, Nat.reduceEqDiff, Nat.reduceAdd, List.nil_append, List.append_nil, List.cons_append, List.length_cons, List.length_nil, List.map_cons, List.map_nil, List.set_cons_zero, List.set_cons_succ, Nat.zero_add, Int.reduceToNat, ite_true, ite_false, Option.some.injEq, Option.isSome_some, AV.int.injEq, AV.agg.injEq, Prod.mk.injEq, Bool.if_true_left, List.all_cons, List.all_nil, Bool.and_self, and_self, Bool.not_eq_true', exists_eq_left', pickOK_nil, List.length_map, cInt_dec, List.toList_toArray, Int.reduceLE, cSl_dec, cAgg_dec, lOne_dec, lCons_dec, dec2_some, set_str, List.length_set, pureB_strs, List.contains_cons, List.contains_nil, Nat.reduceBEq, Bool.or_self, Bool.or_false, beq_self_eq_true, List.range'_zero, decL_str, C1by_ns, C1by_pre, C1by_r, C1by_H, optP_some, optV_some, optH_some, getD_str, List.getD_cons_zero, cutL, List.drop_zero, List.drop_succ_cons, List.take_succ_cons, List.take_zero, Nat.add_zero, Nat.sub_zero, Nat.reduceLeDiff, Nat.le_refl, List.drop_nil, List.take_nil, Nat.zero_lt_succ, tk3, tk9, dz9, tk22, tk27, tz27, dz27, tk35, tz35, dz35, kClone, kPlace, kChanged, aCh, aPos]
  refine ⟨fun h => ?_, fun h => ?_⟩
  · have h1 : ¬ (place ls l c && decide (0 < text.length)) = true := by
      simp at h ⊢
      intro hp
      rcases h with h | h
      · rw [h] at hp; cases hp
      · simp [h]
    simp only [write, if_neg h1]
    simp
  · have h1 : (place ls l c && decide (0 < text.length)) = true := by
      simp at h ⊢
      exact ⟨h.1, by have := h.2; cases text with
        | nil => exact absurd rfl this
        | cons => simp⟩
    simp only [Bool.and_eq_true, decide_eq_true_eq] at h1
    have hw : write ls l c text = _ := if_pos (by simpa using h1)
    rw [hw]
    obtain ⟨hp, ht0⟩ := h1
    rw [place_iff] at hp
    have hs := hb.2 l.toNat
    have ht1 := ht.2 0
    have hb1 := hb.1
    have htl := ht.1
    rw [wrap64 (n := (text.length : Int) - 1) (by omega) (by omega)]
    have hk : ((text.length : Int) - 1).toNat = text.length - 1 := by omega
    rw [hk]
    have hx : ((text.set 0 ((ls.getD l.toNat []).take c.toNat ++ text.getD 0 [])).getD (text.length - 1) []).length ≤ 2199023255552 := by
      rw [getD_setL]
      have := ht.2 (text.length - 1)
      split
      · simp only [List.length_append, List.length_take]; omega
      · omega
    have hy : (l + 1).toNat - l.toNat = 1 := by omega
    refine ⟨by omega, by omega, by omega, by omega, by omega, by simp only [List.length_take]; omega, by omega, by omega, by omega, by omega, by omega, by omega, by omega, by simp only [List.length_drop]; omega, by omega, by omega, by omega, rfl, ⟨rfl, ?_, rfl⟩, ⟨?_, rfl⟩, rfl⟩
    · rw [hy, take1_drop ls l.toNat [] (by omega)]
    · rw [wrap64 (by omega) (by omega)]
      show l + ((text.length : Int) - 1) = l + ((text.length - 1 : Nat) : Int)
      omega

end Go.Pg
namespace Go.Pg
open Go Go.Proofs

theorem grd1 (x : Bool) (p : Prop) [Decidable p] : (x = false → x = false ∧ (p → (!x && decide p) = true)) = True := by
  cases x <;> simp
theorem grd2 (x y : Bool) : (x = false → x = false ∧ (y = true → (!x && y) = true)) = True := by
  cases x <;> simp

def wordB (c : Int) : Bool := (decide (c ≥ 97) && decide (c ≤ 122)) || (decide (c ≥ 65) && decide (c ≤ 90)) || (decide (c ≥ 48) && decide (c ≤ 57)) || c == 95 || decide (c ≥ 128)
def cls (c : Int) (big : Bool) : Int := if (c == 32 || c == 9) = true then 0 else if (big || wordB c) = true then 1 else 2

theorem calls_Of (c : Int) (big : Bool) : CallsR Try.prog 71 [.int .u8 c, .bool big] [] (.int .i64 (cls c big)) [] := by
  refine callsR_of (mrg := true) (dyn := []) (CtrOK.nil _) mixed Try.func71 rfl (by simp [Try.ntmps71]) (by kernel_rfl) ?_
  rw [show Try.f71.results.toList = [.tmp 4] from by kernel_rfl]
  simp (maxSteps := 4000000) only [↓wpA_H, ↓wpH_skip, ↓wpH_ret, ↓wpH_seq, ↓wpH_cond, ↓wpH_block, ↓wpH_region, iselH_if, bselH_false, runH_nil, runH_cons, gw, gselH_plain, gselH_if, kselH_1, cselH_bool, gkind, ↓chk, justK, ↓oneK, ↓pureK, envOf, ↓thenA_normal, ↓thenA_ret, ↓blockA_normal, ↓blockA_ret, ↓stepEv, opnd, Pg.look, binK, intOp, dstOf, Bool.false_eq_true, implies_true, imp_self, true_and, and_true, pickC, pickV, unc, gof, mux, mergeK, condsL, valV, heapV, footV, binV, intV, mergeable, look_stripE, ofV, ofLeaf, sameK, retA, resK, tupA, subA, subQ, ptrsE, frzO, subF, subG, pickOf, frzE, frzC, frz0, frzH, Pg.freeze, List.foldl_nil, subOs, subEv, subV_succ, subM, Op.operands, List.getElem?_toArray, List.getElem?_cons_succ, List.getElem?_cons_zero, Option.bind_some, reduceCtorEq, Nat.reduceEqDiff, List.append_nil, List.length_nil, Nat.zero_add, ite_true, ite_false, Bool.if_false_right, Bool.if_true_left, Bool.decide_eq_true, decide_eq_true_eq, decide_eq_false_iff_not, Int.not_le, Bool.and_self, and_self, Bool.not_eq_true', pickOK_nil, List.toList_toArray, List.contains_nil]
  unfold cls wordB
  have h : (c ≥ 128 ∧ decide (c ≥ 128) = true ∧ ¬ c < 128) ∨ (¬ c ≥ 128 ∧ decide (c ≥ 128) = false ∧ c < 128) := by
    by_cases h : c ≥ 128
    · exact .inl ⟨h, decide_eq_true h, by omega⟩
    · exact .inr ⟨h, decide_eq_false h, by omega⟩
  generalize (c == 32 || c == 9) = x0
  generalize (decide (c ≥ 97) && decide (c ≤ 122)) = x1
  generalize (decide (c ≥ 65) && decide (c ≤ 90)) = x2
  generalize (decide (c ≥ 48) && decide (c ≤ 57)) = x3
  generalize (c == 95) = x4
  rcases h with ⟨h1, h2, h3⟩ | ⟨h1, h2, h3⟩
  all_goals rw [h2]
  all_goals cases x0 <;> cases big <;> cases x1 <;> cases x2 <;> cases x3 <;> cases x4 <;> simp [h1, h3]
theorem calls_ROf (c : Int) (big : Bool) : CallsR Try.prog 34 [.int .u8 c, .bool big] [] (.int .i64 (cls c big)) [] := by
  refine callsR_of (mrg := true) (dyn := []) (CtrOK.nil _) mixed Try.func34 rfl (by simp [Try.ntmps34]) (by kernel_rfl) ?_
  rw [show Try.f34.results.toList = [.tmp 4] from by kernel_rfl]
  simp (maxSteps := 4000000) only [↓wpA_H, ↓wpH_skip, ↓wpH_ret, ↓wpH_seq, ↓wpH_cond, ↓wpH_block, ↓wpH_region, iselH_if, bselH_false, runH_nil, runH_cons, gw, gselH_plain, gselH_if, kselH_0, kselH_1, cselH_bool, gkind, ↓chk, pickO, justK, ↓oneK, ↓pureK, envOf, ↓thenA_normal, ↓thenA_ret, ↓blockA_normal, ↓blockA_ret, ↓stepEv, opnd, Pg.look, binK, intOp, dstOf, Bool.false_eq_true, implies_true, imp_self, true_and, and_true, pickC, pickV, unc, gof, mux, mergeK, condsL, valV, heapV, footV, binV, intV, mergeable, look_stripE, ofV, ofLeaf, sameK, retA, resK, tupA, subA, subQ, ptrsE, frzO, subF, subG, pickOf, frzE, frzC, frz0, frzH, Pg.freeze, List.foldl_nil, subOs, subEv, subV_succ, subM, Op.operands, List.getElem?_toArray, List.getElem?_cons_succ, List.getElem?_cons_zero, Option.bind_some, reduceCtorEq, Nat.reduceEqDiff, List.append_nil, List.length_nil, Nat.zero_add, ite_true, ite_false, Bool.if_false_right, Bool.if_true_left, Bool.decide_eq_true, decide_eq_true_eq, decide_eq_false_iff_not, Int.not_le, Bool.and_self, and_self, Bool.not_eq_true', pickOK_nil, List.toList_toArray, List.contains_nil, grd1]
  refine ⟨fun h => ?_, fun h => ⟨fun h1 => ?_, fun h1 => ?_⟩⟩
  · rw [cls, if_pos h]
  · have e : (big || wordB c) = true := by rw [← h1]; simp only [wordB, Bool.or_assoc]
    rw [cls, if_neg (by rw [h]; simp), if_pos e]
  · have e : (big || wordB c) = false := by rw [← h1]; simp only [wordB, Bool.or_assoc]
    rw [cls, if_neg (by rw [h]; simp), if_neg (by rw [e]; simp)]

def less (p q : Int × Int) : Bool := decide (p.1 < q.1) || (p.1 == q.1 && decide (p.2 < q.2))
theorem calls_Less (p q : Int × Int) : CallsR Try.prog 43 [aPos p, aPos q] [] (.bool (less p q)) [] := by
  refine callsR_of (mrg := true) (dyn := []) (CtrOK.nil _) mixed Try.func43 rfl (by simp [Try.ntmps43]) (by kernel_rfl) ?_
  rw [show Try.f43.results.toList = [.tmp 4] from by kernel_rfl]
  simp (maxSteps := 4000000) only [↓wpA_H, ↓wpH_ret, ↓wpH_seq, ↓wpH_region, bselH_false, runH_nil, runH_cons, gw, gselH_plain, gselH_if, kselH_0, kselH_1, gkind, ↓chk, pickO, justK, noW, ↓oneK, ↓pureK, ↓heapK, envOf, ↓thenA_normal, ↓stepEv, opnd, Pg.look, binK, intOp, dstOf, Bool.false_eq_true, implies_true, imp_self, true_and, and_true, pickC, pickV, unc, gof, mux, mergeK, condsL, valV, heapV, footV, binV, intV, mergeable, look_stripE, ofV, ofLeaf, sameK, retA, resK, tupA, subA, subQ, ptrsE, frzO, subF, subG, pickOf, frzE, frzC, frz0, frzH, Pg.freeze, List.foldl_nil, subOs, subEv, subV_succ, subM, ldCells, objAt, AV.cells, TK.cells, AV.definite, Op.operands, List.getElem?_toArray, List.getElem?_cons_succ, List.getElem?_cons_zero, Option.bind_some, Option.getD_some, reduceCtorEq, Nat.reduceEqDiff, Nat.reduceAdd, List.nil_append, List.append_nil, List.cons_append, List.length_cons, List.length_nil, Nat.zero_add, ite_true, ite_false, Option.some.injEq, Bool.if_false_right, Bool.if_true_left, Bool.decide_eq_true, decide_eq_true_eq, decide_eq_false_iff_not, Int.not_lt, Bool.and_self, and_self, Bool.not_eq_true', exists_eq_left', pickOK_nil, List.toList_toArray, List.contains_nil, List.getD_cons_zero, Nat.add_zero, Nat.zero_lt_succ, tk3, tk27, dz27, aPos]
  exact ⟨fun h => ⟨h, fun h2 => by rw [h2, decide_eq_false (by omega)]; rfl⟩, rfl⟩
theorem calls_RLess (p q : Int × Int) : CallsR Try.prog 52 [aPos p, aPos q] [] (.bool (less p q)) [] := by
  refine callsR_of (mrg := true) (dyn := []) (CtrOK.nil _) mixed Try.func52 rfl (by simp [Try.ntmps52]) (by kernel_rfl) ?_
  rw [show Try.f52.results.toList = [.tmp 4] from by kernel_rfl]
  simp (maxSteps := 4000000) only [↓wpA_H, ↓wpH_ret, ↓wpH_seq, ↓wpH_region, bselH_false, runH_nil, runH_cons, gw, gselH_plain, gselH_if, kselH_0, kselH_1, gkind, ↓chk, pickO, justK, noW, ↓oneK, ↓pureK, ↓heapK, envOf, ↓thenA_normal, ↓stepEv, opnd, Pg.look, binK, intOp, dstOf, Bool.false_eq_true, implies_true, imp_self, true_and, and_true, pickC, pickV, unc, gof, mux, mergeK, condsL, valV, heapV, footV, binV, intV, mergeable, look_stripE, ofV, ofLeaf, sameK, retA, resK, tupA, subA, subQ, ptrsE, frzO, subF, subG, pickOf, frzE, frzC, frz0, frzH, Pg.freeze, List.foldl_nil, subOs, subEv, subV_succ, subM, ldCells, objAt, AV.cells, TK.cells, AV.definite, Op.operands, List.getElem?_toArray, List.getElem?_cons_succ, List.getElem?_cons_zero, Option.bind_some, Option.getD_some, reduceCtorEq, Nat.reduceEqDiff, Nat.reduceAdd, List.nil_append, List.append_nil, List.cons_append, List.length_cons, List.length_nil, Nat.zero_add, ite_true, ite_false, Option.some.injEq, Bool.if_false_right, Bool.if_true_left, Bool.decide_eq_true, decide_eq_true_eq, decide_eq_false_iff_not, Int.not_lt, Bool.and_self, and_self, Bool.not_eq_true', exists_eq_left', pickOK_nil, List.toList_toArray, List.contains_nil, List.getD_cons_zero, Nat.add_zero, Nat.zero_lt_succ, tk3, tk27, dz27, aPos]
  exact ⟨fun h => ⟨h, fun h2 => by rw [h2, decide_eq_false (by omega)]; rfl⟩, rfl⟩
end Go.Pg
