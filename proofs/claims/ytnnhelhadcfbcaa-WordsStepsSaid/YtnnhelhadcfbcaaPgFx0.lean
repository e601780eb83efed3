/- Facts of the program's types, by the kernel. Lists of strings are compared as they are. Letters, places, copies of lists. Changes told; copies of lists. A text is written at a place. Classes of bytes, places in order. Small parts of the document's motions. A line's change; what a key does. -/
import Derived.Test.YtnnhelhadcfbcaaPgLst
import Derived.Test.YtnnhelhadcfbcaaProg
import Derived.KernelRfl
import Derived.Test.YtnnhelhadcfbcaaPgNil
namespace Go.Pg
open Go Go.Proofs
theorem mixed : Try.prog.follows .mixedOrders = true := by kernel_rfl
theorem tk1 : tk Try.prog 1 = TK.leaf := by kernel_rfl
theorem tz1 : tz Try.prog 1 = AV.nfn := by kernel_rfl
theorem dz1 : dz Try.prog 1 = AV.nfn := by kernel_rfl
theorem tk2 : tk Try.prog 2 = TK.int IntKind.i64 := by kernel_rfl
theorem tz2 : tz Try.prog 2 = AV.int IntKind.i64 0 := by kernel_rfl
theorem dz2 : dz Try.prog 2 = AV.int IntKind.i64 0 := by kernel_rfl
theorem eb2 : eb Try.prog 2 = some 8 := by kernel_rfl
theorem eq2 : eqK Try.prog 2 = some [1] := by kernel_rfl
theorem tk3 : tk Try.prog 3 = TK.int IntKind.i64 := by kernel_rfl
theorem tz3 : tz Try.prog 3 = AV.int IntKind.i64 0 := by kernel_rfl
theorem dz3 : dz Try.prog 3 = AV.int IntKind.i64 0 := by kernel_rfl
theorem eb3 : eb Try.prog 3 = some 8 := by kernel_rfl
theorem eq3 : eqK Try.prog 3 = some [1] := by kernel_rfl
theorem tk4 : tk Try.prog 4 = TK.bool := by kernel_rfl
theorem tz4 : tz Try.prog 4 = AV.bool false := by kernel_rfl
theorem dz4 : dz Try.prog 4 = AV.bool false := by kernel_rfl
theorem eb4 : eb Try.prog 4 = some 1 := by kernel_rfl
theorem eq4 : eqK Try.prog 4 = some [0] := by kernel_rfl
theorem tk5 : tk Try.prog 5 = TK.int IntKind.u8 := by kernel_rfl
theorem tz5 : tz Try.prog 5 = AV.int IntKind.u8 0 := by kernel_rfl
theorem dz5 : dz Try.prog 5 = AV.int IntKind.u8 0 := by kernel_rfl
theorem eb5 : eb Try.prog 5 = some 1 := by kernel_rfl
theorem eq5 : eqK Try.prog 5 = some [1] := by kernel_rfl
theorem tk6 : tk Try.prog 6 = TK.int IntKind.u8 := by kernel_rfl
theorem tz6 : tz Try.prog 6 = AV.int IntKind.u8 0 := by kernel_rfl
theorem dz6 : dz Try.prog 6 = AV.int IntKind.u8 0 := by kernel_rfl
theorem eb6 : eb Try.prog 6 = some 1 := by kernel_rfl
theorem eq6 : eqK Try.prog 6 = some [1] := by kernel_rfl
theorem tk7 : tk Try.prog 7 = TK.struct 4 [some (0, 1), some (1, 1), some (2, 1), some (3, 1)] := by kernel_rfl
theorem tz7 : tz Try.prog 7 = AV.agg [AV.int IntKind.i64 0, AV.int IntKind.i64 0, AV.bool false, AV.int IntKind.u8 0] := by kernel_rfl
theorem dz7 : dz Try.prog 7 = AV.agg [AV.int IntKind.i64 0, AV.int IntKind.i64 0, AV.bool false, AV.int IntKind.u8 0] := by kernel_rfl
theorem eb7 : eb Try.prog 7 = some 24 := by kernel_rfl
theorem eq7 : eqK Try.prog 7 = some [1, 1, 0, 1] := by kernel_rfl
theorem tk8 : tk Try.prog 8 = TK.struct 4 [some (0, 1), some (1, 1), some (2, 1), some (3, 1)] := by kernel_rfl
theorem tz8 : tz Try.prog 8 = AV.agg [AV.int IntKind.i64 0, AV.int IntKind.i64 0, AV.bool false, AV.int IntKind.u8 0] := by kernel_rfl
theorem dz8 : dz Try.prog 8 = AV.agg [AV.int IntKind.i64 0, AV.int IntKind.i64 0, AV.bool false, AV.int IntKind.u8 0] := by kernel_rfl
theorem eb8 : eb Try.prog 8 = some 24 := by kernel_rfl
theorem eq8 : eqK Try.prog 8 = some [1, 1, 0, 1] := by kernel_rfl
theorem tk9 : tk Try.prog 9 = TK.str := by kernel_rfl
theorem tz9 : tz Try.prog 9 = AV.str [] := by kernel_rfl
theorem dz9 : dz Try.prog 9 = AV.str [] := by kernel_rfl
theorem eb9 : eb Try.prog 9 = some 16 := by kernel_rfl
theorem eq9 : eqK Try.prog 9 = some [2] := by kernel_rfl
theorem tk10 : tk Try.prog 10 = TK.str := by kernel_rfl
theorem tz10 : tz Try.prog 10 = AV.str [] := by kernel_rfl
theorem dz10 : dz Try.prog 10 = AV.str [] := by kernel_rfl
theorem eb10 : eb Try.prog 10 = some 16 := by kernel_rfl
theorem eq10 : eqK Try.prog 10 = some [2] := by kernel_rfl
theorem tk11 : tk Try.prog 11 = TK.str := by kernel_rfl
theorem tz11 : tz Try.prog 11 = AV.str [] := by kernel_rfl
theorem dz11 : dz Try.prog 11 = AV.str [] := by kernel_rfl
theorem eb11 : eb Try.prog 11 = some 16 := by kernel_rfl
theorem eq11 : eqK Try.prog 11 = some [2] := by kernel_rfl
theorem tk12 : tk Try.prog 12 = TK.int IntKind.u64 := by kernel_rfl
theorem tz12 : tz Try.prog 12 = AV.int IntKind.u64 0 := by kernel_rfl
theorem dz12 : dz Try.prog 12 = AV.int IntKind.u64 0 := by kernel_rfl
theorem eb12 : eb Try.prog 12 = some 8 := by kernel_rfl
theorem eq12 : eqK Try.prog 12 = some [1] := by kernel_rfl
theorem tk13 : tk Try.prog 13 = TK.struct 2 [some (0, 1), some (1, 1)] := by kernel_rfl
theorem tz13 : tz Try.prog 13 = AV.agg [AV.str [], AV.int IntKind.u64 0] := by kernel_rfl
theorem dz13 : dz Try.prog 13 = AV.agg [AV.str [], AV.int IntKind.u64 0] := by kernel_rfl
theorem eb13 : eb Try.prog 13 = some 24 := by kernel_rfl
theorem tk14 : tk Try.prog 14 = TK.struct 2 [some (0, 1), some (1, 1)] := by kernel_rfl
theorem tz14 : tz Try.prog 14 = AV.agg [AV.str [], AV.int IntKind.u64 0] := by kernel_rfl
theorem dz14 : dz Try.prog 14 = AV.agg [AV.str [], AV.int IntKind.u64 0] := by kernel_rfl
theorem eb14 : eb Try.prog 14 = some 24 := by kernel_rfl
theorem tk15 : tk Try.prog 15 = TK.leaf := by kernel_rfl
theorem tk16 : tk Try.prog 16 = TK.leaf := by kernel_rfl
theorem tk17 : tk Try.prog 17 = TK.leaf := by kernel_rfl
theorem tk18 : tk Try.prog 18 = TK.struct 1 [some (0, 1)] := by kernel_rfl
theorem tz18 : tz Try.prog 18 = AV.agg [AV.top] := by kernel_rfl
theorem dz18 : dz Try.prog 18 = AV.agg [AV.top] := by kernel_rfl
theorem eb18 : eb Try.prog 18 = some 8 := by kernel_rfl
theorem tk19 : tk Try.prog 19 = TK.struct 1 [some (0, 1)] := by kernel_rfl
theorem tz19 : tz Try.prog 19 = AV.agg [AV.top] := by kernel_rfl
theorem dz19 : dz Try.prog 19 = AV.agg [AV.top] := by kernel_rfl
theorem eb19 : eb Try.prog 19 = some 8 := by kernel_rfl
theorem tk20 : tk Try.prog 20 = TK.leaf := by kernel_rfl
theorem tk21 : tk Try.prog 21 = TK.int IntKind.i32 := by kernel_rfl
theorem tz21 : tz Try.prog 21 = AV.int IntKind.i32 0 := by kernel_rfl
theorem dz21 : dz Try.prog 21 = AV.int IntKind.i32 0 := by kernel_rfl
theorem eb21 : eb Try.prog 21 = some 4 := by kernel_rfl
theorem eq21 : eqK Try.prog 21 = some [1] := by kernel_rfl
theorem tk22 : tk Try.prog 22 = TK.slice 9 1 := by kernel_rfl
theorem tz22 : tz Try.prog 22 = AV.nls := by kernel_rfl
theorem dz22 : dz Try.prog 22 = AV.sl 1 [] := by kernel_rfl
theorem eb22 : eb Try.prog 22 = some 24 := by kernel_rfl
theorem tk23 : tk Try.prog 23 = TK.leaf := by kernel_rfl
theorem tz23 : tz Try.prog 23 = AV.nfn := by kernel_rfl
theorem dz23 : dz Try.prog 23 = AV.nfn := by kernel_rfl
theorem tk24 : tk Try.prog 24 = TK.leaf := by kernel_rfl
theorem tz24 : tz Try.prog 24 = AV.nfn := by kernel_rfl
theorem dz24 : dz Try.prog 24 = AV.nfn := by kernel_rfl
theorem tk25 : tk Try.prog 25 = TK.slice 36 2 := by kernel_rfl
theorem tz25 : tz Try.prog 25 = AV.nls := by kernel_rfl
theorem dz25 : dz Try.prog 25 = AV.sl 2 [] := by kernel_rfl
theorem eb25 : eb Try.prog 25 = some 24 := by kernel_rfl
theorem tk27 : tk Try.prog 27 = TK.leaf := by kernel_rfl
theorem tz27 : tz Try.prog 27 = AV.nfn := by kernel_rfl
theorem dz27 : dz Try.prog 27 = AV.nfn := by kernel_rfl
theorem tk28 : tk Try.prog 28 = TK.leaf := by kernel_rfl
theorem tz28 : tz Try.prog 28 = AV.nfn := by kernel_rfl
theorem dz28 : dz Try.prog 28 = AV.nfn := by kernel_rfl
theorem tk29 : tk Try.prog 29 = TK.leaf := by kernel_rfl
theorem tz29 : tz Try.prog 29 = AV.nfn := by kernel_rfl
theorem dz29 : dz Try.prog 29 = AV.nfn := by kernel_rfl
theorem tk30 : tk Try.prog 30 = TK.leaf := by kernel_rfl
theorem tz30 : tz Try.prog 30 = AV.nfn := by kernel_rfl
theorem dz30 : dz Try.prog 30 = AV.nfn := by kernel_rfl
theorem tk31 : tk Try.prog 31 = TK.leaf := by kernel_rfl
theorem tz31 : tz Try.prog 31 = AV.nfn := by kernel_rfl
theorem dz31 : dz Try.prog 31 = AV.nfn := by kernel_rfl
theorem tk32 : tk Try.prog 32 = TK.leaf := by kernel_rfl
theorem tz32 : tz Try.prog 32 = AV.nfn := by kernel_rfl
theorem dz32 : dz Try.prog 32 = AV.nfn := by kernel_rfl
theorem tk33 : tk Try.prog 33 = TK.leaf := by kernel_rfl
theorem tz33 : tz Try.prog 33 = AV.nfn := by kernel_rfl
theorem dz33 : dz Try.prog 33 = AV.nfn := by kernel_rfl
theorem tk34 : tk Try.prog 34 = TK.int IntKind.u16 := by kernel_rfl
theorem tz34 : tz Try.prog 34 = AV.int IntKind.u16 0 := by kernel_rfl
theorem dz34 : dz Try.prog 34 = AV.int IntKind.u16 0 := by kernel_rfl
theorem eb34 : eb Try.prog 34 = some 2 := by kernel_rfl
theorem eq34 : eqK Try.prog 34 = some [1] := by kernel_rfl
theorem tk35 : tk Try.prog 35 = TK.struct 2 [some (0, 1), some (1, 1)] := by kernel_rfl
theorem tz35 : tz Try.prog 35 = AV.agg [AV.int IntKind.i64 0, AV.int IntKind.i64 0] := by kernel_rfl
theorem dz35 : dz Try.prog 35 = AV.agg [AV.int IntKind.i64 0, AV.int IntKind.i64 0] := by kernel_rfl
theorem eb35 : eb Try.prog 35 = some 16 := by kernel_rfl
theorem eq35 : eqK Try.prog 35 = some [1, 1] := by kernel_rfl
theorem tk36 : tk Try.prog 36 = TK.struct 2 [some (0, 1), some (1, 1)] := by kernel_rfl
theorem tz36 : tz Try.prog 36 = AV.agg [AV.int IntKind.i64 0, AV.int IntKind.i64 0] := by kernel_rfl
theorem dz36 : dz Try.prog 36 = AV.agg [AV.int IntKind.i64 0, AV.int IntKind.i64 0] := by kernel_rfl
theorem eb36 : eb Try.prog 36 = some 16 := by kernel_rfl
theorem eq36 : eqK Try.prog 36 = some [1, 1] := by kernel_rfl
theorem tk37 : tk Try.prog 37 = TK.leaf := by kernel_rfl
theorem tz37 : tz Try.prog 37 = AV.nfn := by kernel_rfl
theorem dz37 : dz Try.prog 37 = AV.nfn := by kernel_rfl
theorem tk38 : tk Try.prog 38 = TK.struct 5 [some (0, 2), some (2, 1), some (3, 1), some (4, 1)] := by kernel_rfl
theorem tz38 : tz Try.prog 38 = AV.agg [AV.int IntKind.i64 0, AV.int IntKind.i64 0, AV.int IntKind.i64 0, AV.bool false, AV.int IntKind.i64 0] := by kernel_rfl
theorem dz38 : dz Try.prog 38 = AV.agg [AV.int IntKind.i64 0, AV.int IntKind.i64 0, AV.int IntKind.i64 0, AV.bool false, AV.int IntKind.i64 0] := by kernel_rfl
theorem eb38 : eb Try.prog 38 = some 40 := by kernel_rfl
theorem eq38 : eqK Try.prog 38 = some [1, 1, 1, 0, 1] := by kernel_rfl
theorem tk39 : tk Try.prog 39 = TK.struct 5 [some (0, 2), some (2, 1), some (3, 1), some (4, 1)] := by kernel_rfl
theorem tz39 : tz Try.prog 39 = AV.agg [AV.int IntKind.i64 0, AV.int IntKind.i64 0, AV.int IntKind.i64 0, AV.bool false, AV.int IntKind.i64 0] := by kernel_rfl
theorem dz39 : dz Try.prog 39 = AV.agg [AV.int IntKind.i64 0, AV.int IntKind.i64 0, AV.int IntKind.i64 0, AV.bool false, AV.int IntKind.i64 0] := by kernel_rfl
theorem eb39 : eb Try.prog 39 = some 40 := by kernel_rfl
theorem eq39 : eqK Try.prog 39 = some [1, 1, 1, 0, 1] := by kernel_rfl
theorem tk41 : tk Try.prog 41 = TK.leaf := by kernel_rfl
theorem tz41 : tz Try.prog 41 = AV.nfn := by kernel_rfl
theorem dz41 : dz Try.prog 41 = AV.nfn := by kernel_rfl
theorem tk42 : tk Try.prog 42 = TK.leaf := by kernel_rfl
theorem tz42 : tz Try.prog 42 = AV.nfn := by kernel_rfl
theorem dz42 : dz Try.prog 42 = AV.nfn := by kernel_rfl
theorem tk43 : tk Try.prog 43 = TK.leaf := by kernel_rfl
theorem tz43 : tz Try.prog 43 = AV.nfn := by kernel_rfl
theorem dz43 : dz Try.prog 43 = AV.nfn := by kernel_rfl
theorem tk44 : tk Try.prog 44 = TK.leaf := by kernel_rfl
theorem tz44 : tz Try.prog 44 = AV.nfn := by kernel_rfl
theorem dz44 : dz Try.prog 44 = AV.nfn := by kernel_rfl
theorem tk45 : tk Try.prog 45 = TK.leaf := by kernel_rfl
theorem tz45 : tz Try.prog 45 = AV.nfn := by kernel_rfl
theorem dz45 : dz Try.prog 45 = AV.nfn := by kernel_rfl
theorem tk46 : tk Try.prog 46 = TK.slice 3 1 := by kernel_rfl
theorem tz46 : tz Try.prog 46 = AV.nls := by kernel_rfl
theorem dz46 : dz Try.prog 46 = AV.sl 1 [] := by kernel_rfl
theorem eb46 : eb Try.prog 46 = some 24 := by kernel_rfl
theorem tk47 : tk Try.prog 47 = TK.leaf := by kernel_rfl
theorem tz47 : tz Try.prog 47 = AV.nfn := by kernel_rfl
theorem dz47 : dz Try.prog 47 = AV.nfn := by kernel_rfl
theorem tk48 : tk Try.prog 48 = TK.leaf := by kernel_rfl
theorem tz48 : tz Try.prog 48 = AV.nfn := by kernel_rfl
theorem dz48 : dz Try.prog 48 = AV.nfn := by kernel_rfl
theorem tk49 : tk Try.prog 49 = TK.leaf := by kernel_rfl
theorem tz49 : tz Try.prog 49 = AV.nfn := by kernel_rfl
theorem dz49 : dz Try.prog 49 = AV.nfn := by kernel_rfl
theorem tk50 : tk Try.prog 50 = TK.leaf := by kernel_rfl
theorem tz50 : tz Try.prog 50 = AV.nfn := by kernel_rfl
theorem dz50 : dz Try.prog 50 = AV.nfn := by kernel_rfl
theorem tk51 : tk Try.prog 51 = TK.leaf := by kernel_rfl
theorem tz51 : tz Try.prog 51 = AV.nfn := by kernel_rfl
theorem dz51 : dz Try.prog 51 = AV.nfn := by kernel_rfl
theorem tk52 : tk Try.prog 52 = TK.leaf := by kernel_rfl
theorem tz52 : tz Try.prog 52 = AV.nfn := by kernel_rfl
theorem dz52 : dz Try.prog 52 = AV.nfn := by kernel_rfl
theorem tk53 : tk Try.prog 53 = TK.leaf := by kernel_rfl
theorem tz53 : tz Try.prog 53 = AV.nfn := by kernel_rfl
theorem dz53 : dz Try.prog 53 = AV.nfn := by kernel_rfl
theorem tk55 : tk Try.prog 55 = TK.leaf := by kernel_rfl
theorem tz55 : tz Try.prog 55 = AV.nfn := by kernel_rfl
theorem dz55 : dz Try.prog 55 = AV.nfn := by kernel_rfl
theorem tk56 : tk Try.prog 56 = TK.leaf := by kernel_rfl
theorem tz56 : tz Try.prog 56 = AV.nfn := by kernel_rfl
theorem dz56 : dz Try.prog 56 = AV.nfn := by kernel_rfl
theorem tk57 : tk Try.prog 57 = TK.leaf := by kernel_rfl
theorem tz57 : tz Try.prog 57 = AV.nfn := by kernel_rfl
theorem dz57 : dz Try.prog 57 = AV.nfn := by kernel_rfl
theorem tk58 : tk Try.prog 58 = TK.leaf := by kernel_rfl
theorem tz58 : tz Try.prog 58 = AV.nfn := by kernel_rfl
theorem dz58 : dz Try.prog 58 = AV.nfn := by kernel_rfl
theorem tk59 : tk Try.prog 59 = TK.leaf := by kernel_rfl
theorem tz59 : tz Try.prog 59 = AV.nfn := by kernel_rfl
theorem dz59 : dz Try.prog 59 = AV.nfn := by kernel_rfl
theorem tk60 : tk Try.prog 60 = TK.leaf := by kernel_rfl
theorem tz60 : tz Try.prog 60 = AV.nfn := by kernel_rfl
theorem dz60 : dz Try.prog 60 = AV.nfn := by kernel_rfl
theorem tk61 : tk Try.prog 61 = TK.leaf := by kernel_rfl
theorem tz61 : tz Try.prog 61 = AV.nfn := by kernel_rfl
theorem dz61 : dz Try.prog 61 = AV.nfn := by kernel_rfl
theorem tk62 : tk Try.prog 62 = TK.leaf := by kernel_rfl
theorem tz62 : tz Try.prog 62 = AV.nfn := by kernel_rfl
theorem dz62 : dz Try.prog 62 = AV.nfn := by kernel_rfl
theorem tk63 : tk Try.prog 63 = TK.leaf := by kernel_rfl
theorem tz63 : tz Try.prog 63 = AV.nfn := by kernel_rfl
theorem dz63 : dz Try.prog 63 = AV.nfn := by kernel_rfl
theorem tk64 : tk Try.prog 64 = TK.leaf := by kernel_rfl
theorem tz64 : tz Try.prog 64 = AV.nfn := by kernel_rfl
theorem dz64 : dz Try.prog 64 = AV.nfn := by kernel_rfl
theorem tk65 : tk Try.prog 65 = TK.struct 4 [some (0, 1), some (1, 1), some (2, 1), some (3, 1)] := by kernel_rfl
theorem tz65 : tz Try.prog 65 = AV.agg [AV.top, AV.top, AV.top, AV.str []] := by kernel_rfl
theorem dz65 : dz Try.prog 65 = AV.agg [AV.top, AV.top, AV.top, AV.str []] := by kernel_rfl
theorem eb65 : eb Try.prog 65 = some 40 := by kernel_rfl
theorem tk66 : tk Try.prog 66 = TK.struct 4 [some (0, 1), some (1, 1), some (2, 1), some (3, 1)] := by kernel_rfl
theorem tz66 : tz Try.prog 66 = AV.agg [AV.top, AV.top, AV.top, AV.str []] := by kernel_rfl
theorem dz66 : dz Try.prog 66 = AV.agg [AV.top, AV.top, AV.top, AV.str []] := by kernel_rfl
theorem eb66 : eb Try.prog 66 = some 40 := by kernel_rfl
theorem tk67 : tk Try.prog 67 = TK.arr 0 16 1 0 := by kernel_rfl
theorem tz67 : tz Try.prog 67 = AV.agg [] := by kernel_rfl
theorem dz67 : dz Try.prog 67 = AV.agg [] := by kernel_rfl
theorem tk68 : tk Try.prog 68 = TK.struct 0 [none] := by kernel_rfl
theorem tz68 : tz Try.prog 68 = AV.agg [] := by kernel_rfl
theorem dz68 : dz Try.prog 68 = AV.agg [] := by kernel_rfl
theorem tk69 : tk Try.prog 69 = TK.struct 0 [none] := by kernel_rfl
theorem tz69 : tz Try.prog 69 = AV.agg [] := by kernel_rfl
theorem dz69 : dz Try.prog 69 = AV.agg [] := by kernel_rfl
theorem tk70 : tk Try.prog 70 = TK.leaf := by kernel_rfl
theorem tz70 : tz Try.prog 70 = AV.nfn := by kernel_rfl
theorem dz70 : dz Try.prog 70 = AV.nfn := by kernel_rfl
theorem tk71 : tk Try.prog 71 = TK.int IntKind.u32 := by kernel_rfl
theorem tz71 : tz Try.prog 71 = AV.int IntKind.u32 0 := by kernel_rfl
theorem dz71 : dz Try.prog 71 = AV.int IntKind.u32 0 := by kernel_rfl
theorem eb71 : eb Try.prog 71 = some 4 := by kernel_rfl
theorem eq71 : eqK Try.prog 71 = some [1] := by kernel_rfl
theorem tk72 : tk Try.prog 72 = TK.int IntKind.u8 := by kernel_rfl
theorem tz72 : tz Try.prog 72 = AV.int IntKind.u8 0 := by kernel_rfl
theorem dz72 : dz Try.prog 72 = AV.int IntKind.u8 0 := by kernel_rfl
theorem eb72 : eb Try.prog 72 = some 1 := by kernel_rfl
theorem eq72 : eqK Try.prog 72 = some [1] := by kernel_rfl
theorem tk73 : tk Try.prog 73 = TK.int IntKind.u8 := by kernel_rfl
theorem tz73 : tz Try.prog 73 = AV.int IntKind.u8 0 := by kernel_rfl
theorem dz73 : dz Try.prog 73 = AV.int IntKind.u8 0 := by kernel_rfl
theorem eb73 : eb Try.prog 73 = some 1 := by kernel_rfl
theorem eq73 : eqK Try.prog 73 = some [1] := by kernel_rfl
theorem tk74 : tk Try.prog 74 = TK.leaf := by kernel_rfl
theorem tz74 : tz Try.prog 74 = AV.nfn := by kernel_rfl
theorem dz74 : dz Try.prog 74 = AV.nfn := by kernel_rfl
theorem tk75 : tk Try.prog 75 = TK.leaf := by kernel_rfl
theorem tk76 : tk Try.prog 76 = TK.int IntKind.i32 := by kernel_rfl
theorem tz76 : tz Try.prog 76 = AV.int IntKind.i32 0 := by kernel_rfl
theorem dz76 : dz Try.prog 76 = AV.int IntKind.i32 0 := by kernel_rfl
theorem eb76 : eb Try.prog 76 = some 4 := by kernel_rfl
theorem eq76 : eqK Try.prog 76 = some [1] := by kernel_rfl
theorem tk77 : tk Try.prog 77 = TK.int IntKind.i32 := by kernel_rfl
theorem tz77 : tz Try.prog 77 = AV.int IntKind.i32 0 := by kernel_rfl
theorem dz77 : dz Try.prog 77 = AV.int IntKind.i32 0 := by kernel_rfl
theorem eb77 : eb Try.prog 77 = some 4 := by kernel_rfl
theorem eq77 : eqK Try.prog 77 = some [1] := by kernel_rfl
theorem tk78 : tk Try.prog 78 = TK.struct 11 [some (0, 1), some (1, 1), some (2, 1), some (3, 1), some (4, 1), some (5, 1), some (6, 1), some (7, 1), some (8, 1), some (9, 1), some (10, 1)] := by kernel_rfl
theorem tz78 : tz Try.prog 78 = AV.agg [AV.int IntKind.u64 0, AV.int IntKind.u64 0, AV.int IntKind.u32 0, AV.int IntKind.u8 0, AV.int IntKind.u8 0, AV.int IntKind.u8 0, AV.int IntKind.u8 0, AV.nfn, AV.top, AV.int IntKind.i32 0, AV.int IntKind.i32 0] := by kernel_rfl
theorem dz78 : dz Try.prog 78 = AV.agg [AV.int IntKind.u64 0, AV.int IntKind.u64 0, AV.int IntKind.u32 0, AV.int IntKind.u8 0, AV.int IntKind.u8 0, AV.int IntKind.u8 0, AV.int IntKind.u8 0, AV.nfn, AV.top, AV.int IntKind.i32 0, AV.int IntKind.i32 0] := by kernel_rfl
theorem eb78 : eb Try.prog 78 = some 48 := by kernel_rfl
theorem tk79 : tk Try.prog 79 = TK.struct 11 [some (0, 1), some (1, 1), some (2, 1), some (3, 1), some (4, 1), some (5, 1), some (6, 1), some (7, 1), some (8, 1), some (9, 1), some (10, 1)] := by kernel_rfl
theorem tz79 : tz Try.prog 79 = AV.agg [AV.int IntKind.u64 0, AV.int IntKind.u64 0, AV.int IntKind.u32 0, AV.int IntKind.u8 0, AV.int IntKind.u8 0, AV.int IntKind.u8 0, AV.int IntKind.u8 0, AV.nfn, AV.top, AV.int IntKind.i32 0, AV.int IntKind.i32 0] := by kernel_rfl
theorem dz79 : dz Try.prog 79 = AV.agg [AV.int IntKind.u64 0, AV.int IntKind.u64 0, AV.int IntKind.u32 0, AV.int IntKind.u8 0, AV.int IntKind.u8 0, AV.int IntKind.u8 0, AV.int IntKind.u8 0, AV.nfn, AV.top, AV.int IntKind.i32 0, AV.int IntKind.i32 0] := by kernel_rfl
theorem eb79 : eb Try.prog 79 = some 48 := by kernel_rfl
end Go.Pg
namespace Go.Pg
open Go Go.Proofs

theorem eq_of_takes {a b : List (List UInt8)} (h : a.length = b.length) (ht : a.take a.length = b.take a.length) : a = b := by
  rw [List.take_length] at ht
  rw [h, List.take_length] at ht
  exact ht

theorem take_succ_eq {a b : List (List UInt8)} {i : Nat} (h : a.take i = b.take i) (ha : i < a.length) (hb : i < b.length) (he : a.getD i [] = b.getD i []) : a.take (i + 1) = b.take (i + 1) := by
  simp only [List.getD_eq_getElem?_getD, List.getElem?_eq_getElem ha, List.getElem?_eq_getElem hb, Option.getD_some] at he
  rw [List.take_succ_eq_append_getElem ha, List.take_succ_eq_append_getElem hb, h, he]

def kStrings : C1 := C1.by [.sl 1 [], .sl 1 []] (lCons cStrs (lOne cStrs)) (fun d => d.1.length ≤ 140737488355328 ∧ d.2.length ≤ 140737488355328) (fun d => .bool (d.1 == d.2)) (fun _ => [])
end Go.Pg
namespace Go.Pg
open Go Go.Proofs

def letter (n : Int) : Bool := decide (n ≥ 32) && (n != 127) || (n == 9)

def place (ls : List (List UInt8)) (l c : Int) : Bool :=
  decide (l ≥ 0) && decide (l < ls.length) && decide (c ≥ 0) && decide (c ≤ (ls.getD l.toNat []).length)

theorem calls_Place (ls : List (List UInt8)) (l c : Int) : CallsR Try.prog 45 [.sl 1 (ls.map .str), .agg [.int .i64 l, .int .i64 c]] [] (.bool (place ls l c)) [] := by
  refine callsR_of (mrg := true) (dyn := []) (CtrOK.nil _) mixed Try.func45 rfl (by simp [Try.ntmps45]) (by kernel_rfl) ?_
  rw [show Try.f45.results.toList = [.tmp 4] from by kernel_rfl]
  simp (maxSteps := 4000000) only [↓wpA_H, ↓wpH_ret, ↓wpH_seq, ↓wpH_region, bselH_false, runH_nil, runH_cons, gw, gselH_plain, gselH_if, kselH_1, gkind, ↓chk, justK, noW, ↓oneK, ↓pureK, ↓heapK, envOf, ↓thenA_normal, ↓stepEv, opnd, Pg.look, binK, intOp, dstOf, Bool.false_eq_true, implies_true, imp_self, true_and, and_true, pickC, pickV, unc, gof, mux, mergeK, condsL, valV, heapV, footV, binV, intV, mergeable, look_stripE, ofV, ofLeaf, sameK, retA, resK, tupA, subA, subQ, ptrsE, frzO, subF, subG, pickOf, frzE, frzC, frz0, frzH, Pg.freeze, List.foldl_nil, subOs, subEv, subV_succ, subM, slen, ldCells, objAt, AV.cells, TK.cells, AV.definite, Op.operands, Call.operands, Array.toList_append, List.getElem?_toArray, List.getElem?_cons_succ, List.getElem?_cons_zero, Option.bind_some, Option.getD_some, reduceCtorEq, Nat.reduceEqDiff, Nat.reduceAdd, List.nil_append, List.append_nil, List.length_cons, List.length_nil, Nat.zero_add, ite_true, ite_false, Option.some.injEq, AV.int.injEq, Bool.if_false_right, Bool.decide_eq_true, decide_eq_true_eq, decide_eq_false_iff_not, Int.not_le, Bool.and_self, and_self, exists_eq_left', pickOK_nil, List.length_map, List.toList_toArray, List.contains_nil, getD_str, List.getD_cons_zero, Nat.add_zero, Nat.zero_lt_succ, tk3, tk9, dz9, tk22, tk36, dz36]
  refine ⟨fun h => ?_, rfl⟩
  have h' := h
  simp at h'
  exact ⟨h, by omega, by omega⟩

theorem calls_RPlace (ls : List (List UInt8)) (l c : Int) : CallsR Try.prog 46 [.sl 1 (ls.map .str), .agg [.int .i64 l, .int .i64 c]] [] (.bool (place ls l c)) [] := by
  refine callsR_of (mrg := true) (dyn := []) (CtrOK.nil _) mixed Try.func46 rfl (by simp [Try.ntmps46]) (by kernel_rfl) ?_
  rw [show Try.f46.results.toList = [.tmp 4] from by kernel_rfl]
  simp (maxSteps := 4000000) only [↓wpA_H, ↓wpH_ret, ↓wpH_seq, ↓wpH_region, bselH_false, runH_nil, runH_cons, gw, gselH_plain, gselH_if, kselH_1, gkind, ↓chk, justK, noW, ↓oneK, ↓pureK, ↓heapK, envOf, ↓thenA_normal, ↓stepEv, opnd, Pg.look, binK, intOp, dstOf, Bool.false_eq_true, implies_true, imp_self, true_and, and_true, pickC, pickV, unc, gof, mux, mergeK, condsL, valV, heapV, footV, binV, intV, mergeable, look_stripE, ofV, ofLeaf, sameK, retA, resK, tupA, subA, subQ, ptrsE, frzO, subF, subG, pickOf, frzE, frzC, frz0, frzH, Pg.freeze, List.foldl_nil, subOs, subEv, subV_succ, subM, slen, ldCells, objAt, AV.cells, TK.cells, AV.definite, Op.operands, Call.operands, Array.toList_append, List.getElem?_toArray, List.getElem?_cons_succ, List.getElem?_cons_zero, Option.bind_some, Option.getD_some, reduceCtorEq, Nat.reduceEqDiff, Nat.reduceAdd, List.nil_append, List.append_nil, List.length_cons, List.length_nil, Nat.zero_add, ite_true, ite_false, Option.some.injEq, AV.int.injEq, Bool.if_false_right, Bool.decide_eq_true, decide_eq_true_eq, decide_eq_false_iff_not, Int.not_le, Bool.and_self, and_self, exists_eq_left', pickOK_nil, List.length_map, List.toList_toArray, List.contains_nil, getD_str, List.getD_cons_zero, Nat.add_zero, Nat.zero_lt_succ, tk3, tk9, dz9, tk22, tk36, dz36]
  refine ⟨fun h => ?_, rfl⟩
  have h' := h
  simp at h'
  exact ⟨h, by omega, by omega⟩

end Go.Pg
namespace Go.Pg
open Go Go.Proofs

def kClone : C1 := C1.by [.sl 1 []] (lOne cStrs) (fun d => d.length ≤ 4398046511104) (fun d => .own 0 1 d.length) (fun d => [.arr 9 1 (d.map .str)])
end Go.Pg
namespace Go.Pg
open Go Go.Proofs

def kPlace : C1 := C1.by [.sl 1 [], .id] (lCons cStrs (lOne (cAgg (lCons (cInt .i64) (lOne (cInt .i64)))))) (fun _ => True) (fun d => .bool (place d.1 d.2.1 d.2.2)) (fun _ => [])
theorem ok_Place : C1OK Try.prog 45 kPlace := C1OK.by (by kernel_rfl) (fun d _ => calls_Place d.1 d.2.1 d.2.2) (fun _ => rfl) (fun _ => rfl)

def kChanged : C1 := C1.by [.sl 1 [], .id, .id, .sl 1 []] (lCons cStrs (lCons (cInt .i64) (lCons (cInt .i64) (lOne cStrs))))
  (fun d => 0 ≤ d.2.1 ∧ 0 ≤ d.2.2.1 ∧ d.2.1 + d.2.2.1 ≤ d.1.length ∧ d.1.length ≤ 4398046511104)
  (fun d => .agg [.int .i64 d.2.1, .sl 1 ((cutL d.1 d.2.1.toNat (d.2.1 + d.2.2.1).toNat).map .str), .sl 1 (d.2.2.2.map .str)]) (fun _ => [])
abbrev Ls := List (List UInt8)
def aPos (p : Int × Int) : AV := .agg [.int .i64 p.1, .int .i64 p.2]
def aCh (x : Int × Ls × Ls) : AV := .agg [.int .i64 x.1, .sl 1 (x.2.1.map .str), .sl 1 (x.2.2.map .str)]

theorem getD_ch (l : List (Int × Ls × Ls)) (i : Nat) : (l.map aCh).getD i (.agg [.int .i64 0, .sl 1 [], .sl 1 []]) = aCh (l.getD i (0, [], [])) := getD_map aCh l i (0, [], [])
theorem getD_pos (l : List (Int × Int)) (i : Nat) : (l.map aPos).getD i (.agg [.int .i64 0, .int .i64 0]) = aPos (l.getD i (0, 0)) := getD_map aPos l i (0, 0)

/-- Few lines, none of them long. -/
def small (ls : Ls) : Prop := ls.length ≤ 1099511627776 ∧ ∀ i, (ls.getD i []).length ≤ 1099511627776

theorem place_iff (ls : Ls) (l c : Int) : place ls l c = true ↔ 0 ≤ l ∧ l.toNat < ls.length ∧ 0 ≤ c ∧ c ≤ (ls.getD l.toNat []).length := by
  simp only [place, Bool.and_eq_true, decide_eq_true_eq]
  omega

def write (ls : Ls) (l c : Int) (text : Ls) : (Int × Ls × Ls) × (Int × Int) × Bool :=
  if (place ls l c && decide (0 < text.length)) = true then
    let s := ls.getD l.toNat []
    let t0 := text.set 0 (s.take c.toNat ++ text.getD 0 [])
    let k := text.length - 1
    ((l, [s], t0.set k (t0.getD k [] ++ s.drop c.toNat)), (l + k, (t0.getD k []).length), true)
  else ((0, [], []), (0, 0), false)

end Go.Pg
namespace Go.Pg
open Go Go.Proofs

theorem grd1 (x : Bool) (p : Prop) [Decidable p] : (x = false → x = false ∧ (p → (!x && decide p) = true)) = True := by
  cases x <;> simp
theorem grd2 (x y : Bool) : (x = false → x = false ∧ (y = true → (!x && y) = true)) = True := by
  cases x <;> simp

def wordB (c : Int) : Bool := (decide (c ≥ 97) && decide (c ≤ 122)) || (decide (c ≥ 65) && decide (c ≤ 90)) || (decide (c ≥ 48) && decide (c ≤ 57)) || c == 95 || decide (c ≥ 128)
def cls (c : Int) (big : Bool) : Int := if (c == 32 || c == 9) = true then 0 else if (big || wordB c) = true then 1 else 2

theorem calls_Of (c : Int) (big : Bool) : CallsR Try.prog 30 [.int .u8 c, .bool big] [] (.int .i64 (cls c big)) [] := by
  refine callsR_of (mrg := true) (dyn := []) (CtrOK.nil _) mixed Try.func30 rfl (by simp [Try.ntmps30]) (by kernel_rfl) ?_
  rw [show Try.f30.results.toList = [.tmp 4] from by kernel_rfl]
  simp (maxSteps := 4000000) only [↓wpA_H, ↓wpH_skip, ↓wpH_ret, ↓wpH_seq, ↓wpH_cond, ↓wpH_block, ↓wpH_region, iselH_if, bselH_false, runH_nil, runH_cons, gw, gselH_plain, gselH_if, kselH_1, cselH_bool, gkind, ↓chk, justK, ↓oneK, ↓pureK, envOf, ↓thenA_normal, ↓thenA_ret, ↓blockA_normal, ↓blockA_ret, ↓stepEv, opnd, Pg.look, binK, intOp, dstOf, Bool.false_eq_true, implies_true, imp_self, true_and, and_true, pickC, pickV, unc, gof, mux, mergeK, condsL, valV, heapV, footV, binV, intV, mergeable, look_stripE, ofV, ofLeaf, sameK, retA, resK, tupA, subA, subQ, ptrsE, frzO, subF, subG, pickOf, frzE, frzC, frz0, frzH, Pg.freeze, List.foldl_nil, subOs, subEv, subV_succ, subM, Op.operands, List.getElem?_toArray, List.getElem?_cons_succ, List.getElem?_cons_zero, Option.bind_some, reduceCtorEq, Nat.reduceEqDiff, List.append_nil, List.length_nil, Nat.zero_add, ite_true, ite_false, Bool.if_false_right, Bool.if_true_left, Bool.decide_eq_true, decide_eq_true_eq, decide_eq_false_iff_not, Int.not_le, Bool.and_self, and_self, Bool.not_eq_true', pickOK_nil, List.toList_toArray, List.contains_nil]
  unfold cls wordB
  have h : (c ≥ 128 ∧ decide (c ≥ 128) = true ∧ ¬ c < 128) ∨ (¬ c ≥ 128 ∧ decide (c ≥ 128) = false ∧ c < 128) := by
    by_cases h : c ≥ 128
    · exact .inl ⟨h, decide_eq_true h, by omega⟩
    · exact .inr ⟨h, decide_eq_false h, by omega⟩
  generalize (c == 32 || c == 9) = x0
  generalize (decide (c ≥ 97) && decide (c ≤ 122)) = x1
  generalize (decide (c ≥ 65) && decide (c ≤ 90)) = x2
  generalize (decide (c ≥ 48) && decide (c ≤ 57)) = x3
  generalize (c == 95) = x4
  rcases h with ⟨h1, h2, h3⟩ | ⟨h1, h2, h3⟩
  all_goals rw [h2]
  all_goals cases x0 <;> cases big <;> cases x1 <;> cases x2 <;> cases x3 <;> cases x4 <;> simp [h1, h3]
theorem calls_ROf (c : Int) (big : Bool) : CallsR Try.prog 32 [.int .u8 c, .bool big] [] (.int .i64 (cls c big)) [] := by
  refine callsR_of (mrg := true) (dyn := []) (CtrOK.nil _) mixed Try.func32 rfl (by simp [Try.ntmps32]) (by kernel_rfl) ?_
  rw [show Try.f32.results.toList = [.tmp 4] from by kernel_rfl]
  simp (maxSteps := 4000000) only [↓wpA_H, ↓wpH_skip, ↓wpH_ret, ↓wpH_seq, ↓wpH_cond, ↓wpH_block, ↓wpH_region, iselH_if, bselH_false, runH_nil, runH_cons, gw, gselH_plain, gselH_if, kselH_0, kselH_1, cselH_bool, gkind, ↓chk, pickO, justK, ↓oneK, ↓pureK, envOf, ↓thenA_normal, ↓thenA_ret, ↓blockA_normal, ↓blockA_ret, ↓stepEv, opnd, Pg.look, binK, intOp, dstOf, Bool.false_eq_true, implies_true, imp_self, true_and, and_true, pickC, pickV, unc, gof, mux, mergeK, condsL, valV, heapV, footV, binV, intV, mergeable, look_stripE, ofV, ofLeaf, sameK, retA, resK, tupA, subA, subQ, ptrsE, frzO, subF, subG, pickOf, frzE, frzC, frz0, frzH, Pg.freeze, List.foldl_nil, subOs, subEv, subV_succ, subM, Op.operands, List.getElem?_toArray, List.getElem?_cons_succ, List.getElem?_cons_zero, Option.bind_some, reduceCtorEq, Nat.reduceEqDiff, List.append_nil, List.length_nil, Nat.zero_add, ite_true, ite_false, Bool.if_false_right, Bool.if_true_left, Bool.decide_eq_true, decide_eq_true_eq, decide_eq_false_iff_not, Int.not_le, Bool.and_self, and_self, Bool.not_eq_true', pickOK_nil, List.toList_toArray, List.contains_nil, grd1]
  refine ⟨fun h => ?_, fun h => ⟨fun h1 => ?_, fun h1 => ?_⟩⟩
  · rw [cls, if_pos h]
  · have e : (big || wordB c) = true := by rw [← h1]; simp only [wordB, Bool.or_assoc]
    rw [cls, if_neg (by rw [h]; simp), if_pos e]
  · have e : (big || wordB c) = false := by rw [← h1]; simp only [wordB, Bool.or_assoc]
    rw [cls, if_neg (by rw [h]; simp), if_neg (by rw [e]; simp)]

def less (p q : Int × Int) : Bool := decide (p.1 < q.1) || (p.1 == q.1 && decide (p.2 < q.2))
theorem calls_Less (p q : Int × Int) : CallsR Try.prog 34 [aPos p, aPos q] [] (.bool (less p q)) [] := by
  refine callsR_of (mrg := true) (dyn := []) (CtrOK.nil _) mixed Try.func34 rfl (by simp [Try.ntmps34]) (by kernel_rfl) ?_
  rw [show Try.f34.results.toList = [.tmp 4] from by kernel_rfl]
  simp (maxSteps := 4000000) only [↓wpA_H, ↓wpH_ret, ↓wpH_seq, ↓wpH_region, bselH_false, runH_nil, runH_cons, gw, gselH_plain, gselH_if, kselH_0, kselH_1, gkind, ↓chk, pickO, justK, noW, ↓oneK, ↓pureK, ↓heapK, envOf, ↓thenA_normal, ↓stepEv, opnd, Pg.look, binK, intOp, dstOf, Bool.false_eq_true, implies_true, imp_self, true_and, and_true, pickC, pickV, unc, gof, mux, mergeK, condsL, valV, heapV, footV, binV, intV, mergeable, look_stripE, ofV, ofLeaf, sameK, retA, resK, tupA, subA, subQ, ptrsE, frzO, subF, subG, pickOf, frzE, frzC, frz0, frzH, Pg.freeze, List.foldl_nil, subOs, subEv, subV_succ, subM, ldCells, objAt, AV.cells, TK.cells, AV.definite, Op.operands, List.getElem?_toArray, List.getElem?_cons_succ, List.getElem?_cons_zero, Option.bind_some, Option.getD_some, reduceCtorEq, Nat.reduceEqDiff, Nat.reduceAdd, List.nil_append, List.append_nil, List.cons_append, List.length_cons, List.length_nil, Nat.zero_add, ite_true, ite_false, Option.some.injEq, Bool.if_false_right, Bool.if_true_left, Bool.decide_eq_true, decide_eq_true_eq, decide_eq_false_iff_not, Int.not_lt, Bool.and_self, and_self, Bool.not_eq_true', exists_eq_left', pickOK_nil, List.toList_toArray, List.contains_nil, List.getD_cons_zero, Nat.add_zero, Nat.zero_lt_succ, tk3, tk36, dz36, aPos]
  exact ⟨fun h => ⟨h, fun h2 => by rw [h2, decide_eq_false (by omega)]; rfl⟩, rfl⟩
theorem calls_RLess (p q : Int × Int) : CallsR Try.prog 21 [aPos p, aPos q] [] (.bool (less p q)) [] := by
  refine callsR_of (mrg := true) (dyn := []) (CtrOK.nil _) mixed Try.func21 rfl (by simp [Try.ntmps21]) (by kernel_rfl) ?_
  rw [show Try.f21.results.toList = [.tmp 4] from by kernel_rfl]
  simp (maxSteps := 4000000) only [↓wpA_H, ↓wpH_ret, ↓wpH_seq, ↓wpH_region, bselH_false, runH_nil, runH_cons, gw, gselH_plain, gselH_if, kselH_0, kselH_1, gkind, ↓chk, pickO, justK, noW, ↓oneK, ↓pureK, ↓heapK, envOf, ↓thenA_normal, ↓stepEv, opnd, Pg.look, binK, intOp, dstOf, Bool.false_eq_true, implies_true, imp_self, true_and, and_true, pickC, pickV, unc, gof, mux, mergeK, condsL, valV, heapV, footV, binV, intV, mergeable, look_stripE, ofV, ofLeaf, sameK, retA, resK, tupA, subA, subQ, ptrsE, frzO, subF, subG, pickOf, frzE, frzC, frz0, frzH, Pg.freeze, List.foldl_nil, subOs, subEv, subV_succ, subM, ldCells, objAt, AV.cells, TK.cells, AV.definite, Op.operands, List.getElem?_toArray, List.getElem?_cons_succ, List.getElem?_cons_zero, Option.bind_some, Option.getD_some, reduceCtorEq, Nat.reduceEqDiff, Nat.reduceAdd, List.nil_append, List.append_nil, List.cons_append, List.length_cons, List.length_nil, Nat.zero_add, ite_true, ite_false, Option.some.injEq, Bool.if_false_right, Bool.if_true_left, Bool.decide_eq_true, decide_eq_true_eq, decide_eq_false_iff_not, Int.not_lt, Bool.and_self, and_self, Bool.not_eq_true', exists_eq_left', pickOK_nil, List.toList_toArray, List.contains_nil, List.getD_cons_zero, Nat.add_zero, Nat.zero_lt_succ, tk3, tk36, dz36, aPos]
  exact ⟨fun h => ⟨h, fun h2 => by rw [h2, decide_eq_false (by omega)]; rfl⟩, rfl⟩
end Go.Pg
namespace Go.Pg
open Go Go.Proofs

abbrev Mv := (Int × Int) × Int × Bool × Int
def aMv (m : Mv) : AV := .agg [.int .i64 m.1.1, .int .i64 m.1.2, .int .i64 m.2.1, .bool m.2.2.1, .int .i64 m.2.2.2]
def aMove (r : Mv × Bool) : AV := .tuple [aMv r.1, .bool r.2]
def mNone : Mv × Bool := (((0, 0), 0, false, 0), false)
def mTo (p : Int × Int) (way : Int) : Mv × Bool := ((p, way, false, -1), true)

abbrev lPos2 : CdL (Int × Int) := lCons (cInt .i64) (lOne (cInt .i64))
abbrev cPos2 : Cd (Int × Int) := cAgg lPos2
def kOf : C1 := C1.by [.id, .id] (lCons (cInt .u8) (lOne cBool)) (fun _ => True) (fun d => .int .i64 (cls d.1 d.2)) (fun _ => [])
theorem ok_Of : C1OK Try.prog 30 kOf := C1OK.by (by kernel_rfl) (fun d _ => calls_Of d.1 d.2) (fun _ => rfl) (fun _ => rfl)
theorem ok_ROf : C1OK Try.prog 32 kOf := C1OK.by (by kernel_rfl) (fun d _ => calls_ROf d.1 d.2) (fun _ => rfl) (fun _ => rfl)
def kLess : C1 := C1.by [.id, .id] (lCons cPos2 (lOne cPos2)) (fun _ => True) (fun d => .bool (less d.1 d.2)) (fun _ => [])
theorem ok_Less : C1OK Try.prog 34 kLess := C1OK.by (by kernel_rfl) (fun d _ => calls_Less d.1 d.2) (fun _ => rfl) (fun _ => rfl)
theorem ok_RLess : C1OK Try.prog 21 kLess := C1OK.by (by kernel_rfl) (fun d _ => calls_RLess d.1 d.2) (fun _ => rfl) (fun _ => rfl)
def kRPlace : C1 := C1.by [.sl 1 [], .id] (lCons cStrs (lOne cPos2)) (fun _ => True) (fun d => .bool (place d.1 d.2.1 d.2.2)) (fun _ => [])
theorem ok_R5Place : C1OK Try.prog 46 kRPlace := C1OK.by (by kernel_rfl) (fun d _ => calls_RPlace d.1 d.2.1 d.2.2) (fun _ => rfl) (fun _ => rfl)
theorem ok_CPlace : C1OK Try.prog 45 kRPlace := C1OK.by (by kernel_rfl) (fun d _ => calls_Place d.1 d.2.1 d.2.2) (fun _ => rfl) (fun _ => rfl)

def may (ls : Ls) (p : Int × Int) (n : Int) : Bool := place ls p.1 p.2 && decide (n ≥ 1)
theorem calls_may (ls : Ls) (p : Int × Int) (n : Int) : CallsR Try.prog 37 [.sl 1 (ls.map .str), aPos p, .int .i64 n] [] (.bool (may ls p n)) [] := by
  refine callsR_of (mrg := true) (dyn := []) (CtrOK.cons ok_R5Place (CtrOK.nil _)) mixed Try.func37 rfl (by simp [Try.ntmps37]) (by kernel_rfl) ?_
  rw [show Try.f37.results.toList = [.tmp 6] from by kernel_rfl]
  simp (maxSteps := 4000000) only [↓wpA_H, ↓wpH_ret, ↓wpH_seq, ↓wpH_region, bselH_false, runH_nil, runH_cons, gw, gselH_plain, gselH_if, kselH_1, gkind, ↓chk, justK, noW, ↓oneK, ↓pureK, ↓heapK, envOf, ↓thenA_normal, ↓stepEv, opnd, Pg.look, binK, intOp, dstOf, Bool.false_eq_true, implies_true, imp_self, true_and, and_true, pickC, pickV, unc, gof, mux, mergeK, condsL, valV, heapV, footV, binV, intV, mergeable, look_stripE, ofV, ofLeaf, sameK, retA, resK, tupA, subA, subQ, ptrsE, frzO, subF, subG, pickOf, frzE, frzC, frz0, frzH, Pg.freeze, List.foldl_nil, subOs, subEv, subV_succ, subM, ldCells, objAt, ↓callT, callC, callV, callH, normArgs, normA, normC, resL, res8_eq, res_succ, resM, shiftR, shift1, AV.cells, TK.cells, AV.definite, Op.operands, List.getElem?_toArray, List.getElem?_cons_succ, List.getElem?_cons_zero, Option.bind_some, Option.getD_some, reduceCtorEq, Nat.reduceEqDiff, Nat.reduceAdd, List.nil_append, List.append_nil, List.length_cons, List.length_nil, List.map_cons, List.map_nil, Nat.zero_add, ite_true, ite_false, Option.some.injEq, Bool.if_false_right, Bool.decide_eq_true, Bool.and_self, and_self, exists_eq_left', pickOK_nil, cInt_dec, List.toList_toArray, cSl_dec, cAgg_dec, lOne_dec, lCons_dec, dec2_some, List.contains_nil, List.range'_zero, decL_str, C1by_ns, C1by_pre, C1by_r, C1by_H, optP_some, optV_some, optH_some, List.getD_cons_zero, cutL, List.drop_zero, List.take_succ_cons, Nat.sub_zero, Nat.le_refl, List.take_nil, Nat.zero_lt_succ, C1by_it, tk36, dz36, kRPlace, aPos]
  all_goals rfl

theorem calls_none : CallsR Try.prog 38 [] [] (aMove mNone) [] := by
  refine callsR_of (mrg := true) (dyn := []) (CtrOK.nil _) mixed Try.func38 rfl (by simp [Try.ntmps38]) (by kernel_rfl) ?_
  rw [show Try.f38.results.toList = [.cell 0 39, .tmp 1] from by kernel_rfl]
  simp (maxSteps := 4000000) only [↓wpA_H, ↓wpH_ret, ↓wpH_seq, ↓wpH_region, bselH_false, runH_nil, runH_cons, gw, gselH_plain, ↓chk, justK, noW, ↓oneK, ↓pureK, ↓heapK, envOf, ↓thenA_normal, ↓stepEv, opnd, Pg.look, Bool.false_eq_true, implies_true, true_and, and_true, valV, heapV, footV, ofV, ofLeaf, retA, resK, tupA, subA, subQ, ptrsE, frzO, subF, subG, pickOf, frzE, frzC, frzL, frz0, frzH, Pg.freeze, List.foldl_nil, subOs, subEv, subV_succ, subM, subL, ldCells, objAt, res_succ, resM, AV.cells, TK.cells, AV.definite, AV.leaf, AV.leafy, putCells, lay, buildL, List.getElem?_cons_zero, Option.getD_some, reduceCtorEq, Nat.reduceEqDiff, Nat.reduceAdd, List.nil_append, List.append_nil, List.length_cons, List.length_nil, List.map_nil, List.set_cons_zero, Nat.zero_add, ite_true, ite_false, Option.some.injEq, Option.isSome_some, AV.agg.injEq, List.all_cons, List.all_nil, Bool.and_self, and_self, exists_eq_left', pickOK_nil, List.contains_nil, List.getD_cons_zero, cutL, List.drop_zero, List.drop_succ_cons, List.take_succ_cons, List.take_zero, Nat.sub_zero, Nat.le_refl, List.drop_nil, List.take_nil, Nat.zero_lt_succ, tk39, tz39, dz39, aMove, aMv, mNone]

theorem calls_to (l c : Int) : CallsR Try.prog 42 [.int .i64 l, .int .i64 c] [] (aMove (mTo (l, c) 0)) [] := by
  refine callsR_of (mrg := true) (dyn := []) (CtrOK.nil _) mixed Try.func42 rfl (by simp [Try.ntmps42]) (by kernel_rfl) ?_
  rw [show Try.f42.results.toList = [.cell 4 39, .tmp 5] from by kernel_rfl]
  simp (maxSteps := 4000000) only [↓wpA_H, ↓wpH_ret, ↓wpH_seq, ↓wpH_region, bselH_false, runH_nil, runH_cons, gw, gselH_plain, ↓chk, justK, noW, ↓oneK, ↓pureK, ↓heapK, envOf, ↓thenA_normal, ↓stepEv, opnd, Pg.look, Bool.false_eq_true, implies_true, true_and, and_true, valV, heapV, footV, ofV, ofLeaf, retA, resK, tupA, subA, subQ, ptrsE, frzO, subF, subG, pickOf, frzE, frzC, frzL, frz0, frzH, Pg.freeze, List.foldl_nil, subOs, subEv, subV_succ, subM, subL, ldCells, objAt, res_succ, resM, AV.cells, TK.cells, AV.definite, AV.leaf, AV.leafy, putCells, lay, buildL, List.getElem?_cons_succ, List.getElem?_cons_zero, Option.getD_some, reduceCtorEq, Nat.reduceEqDiff, Nat.reduceAdd, List.nil_append, List.append_nil, List.cons_append, List.length_cons, List.length_nil, List.map_cons, List.map_nil, List.set_cons_zero, Nat.zero_add, ite_true, ite_false, Option.some.injEq, Option.isSome_some, AV.agg.injEq, List.all_cons, List.all_nil, Bool.and_self, and_self, exists_eq_left', pickOK_nil, List.contains_nil, List.getD_cons_zero, cutL, List.drop_zero, List.drop_succ_cons, List.take_succ_cons, List.take_zero, Nat.sub_zero, Nat.reduceLeDiff, Nat.le_refl, List.drop_nil, List.take_nil, Nat.zero_lt_succ, tk36, tz36, tk39, tz39, dz39, aMove, aMv, mTo]

def kNone : C1 := C1.by [] lNil (fun _ => True) (fun _ => aMove mNone) (fun _ => [])
theorem ok_none : C1OK Try.prog 38 kNone := C1OK.by (by kernel_rfl) (fun _ _ => calls_none) (fun _ => rfl) (fun _ => rfl)

def nth (l : List (Int × Int)) (n way : Int) : Mv × Bool := if n > l.length then mNone else mTo (l.getD (n - 1).toNat (0, 0)) way
theorem calls_nth (l : List (Int × Int)) (n way : Int) (h : 1 ≤ n) (hb : l.length ≤ 140737488355328) : CallsR Try.prog 40 [.sl 2 (l.map aPos), .int .i64 n, .int .i64 way] [] (aMove (nth l n way)) [] := by
  refine callsR_of (mrg := true) (dyn := []) (CtrOK.cons ok_none (CtrOK.nil _)) mixed Try.func40 rfl (by simp [Try.ntmps40]) (by kernel_rfl) ?_
  rw [show Try.f40.results.toList = [.cell 6 39, .tmp 7] from by kernel_rfl]
  simp (maxSteps := 4000000) only [↓wpA_H, ↓wpH_skip, ↓wpH_ret, ↓wpH_seq, ↓wpH_cond, ↓wpH_region, iselH_if, bselH_false, runH_nil, runH_cons, gw, gselH_plain, cselH_bool, ↓chk, justK, noW, ↓oneK, ↓pureK, ↓heapK, envOf, ↓thenA_normal, ↓thenA_ret, ↓stepEv, opnd, Pg.look, binK, intOp, Bool.false_eq_true, implies_true, true_and, and_true, valV, heapV, footV, binV, intV, ofV, ofLeaf, retA, resK, tupA, subA, subQ, ptrsE, frzO, subF, subG, pickOf, frzE, frzC, frzL, frz0, frzH, Pg.freeze, List.foldl_nil, subOs, subEv, subV_succ, subM, subL, slen, ldCells, objAt, ↓callT, callC, callV, callH, normArgs, resL, res_succ, resM, shiftR, shift1, AV.cells, TK.cells, AV.definite, AV.leaf, AV.leafy, putCells, lay, buildL, List.getElem?_cons_succ, List.getElem?_cons_zero, Option.getD_some, reduceCtorEq, Nat.reduceEqDiff, Nat.reduceAdd, List.nil_append, List.append_nil, List.cons_append, List.length_cons, List.length_nil, List.map_cons, List.map_nil, List.set_cons_zero, Nat.zero_add, ite_true, ite_false, Option.some.injEq, Option.isSome_some, AV.int.injEq, AV.agg.injEq, decide_eq_true_eq, decide_eq_false_iff_not, Int.not_lt, List.all_cons, List.all_nil, Bool.and_self, and_self, exists_eq_left', pickOK_nil, List.length_map, lNil_dec, List.contains_nil, List.range'_zero, C1by_ns, C1by_pre, C1by_r, C1by_H, optP_some, optV_some, optH_some, List.getD_cons_zero, cutL, List.drop_zero, List.drop_succ_cons, List.take_succ_cons, List.take_zero, Nat.sub_zero, Nat.reduceLeDiff, Nat.le_refl, List.drop_nil, List.take_nil, Nat.zero_lt_succ, C1by_it, tk25, tk36, dz36, tk39, tz39, dz39, aMove, aMv, aPos, kNone, getD_pos]
  refine ⟨fun h1 => ?_, fun h1 => ?_⟩
  · rw [nth, if_pos h1]
    exact ⟨⟨rfl, rfl, rfl, rfl, rfl⟩, rfl⟩
  · rw [nth, if_neg (by omega), wrap64 (by omega) (by omega)]
    exact ⟨by omega, ⟨rfl, rfl, rfl, rfl, rfl⟩, rfl⟩

theorem calls_end (ls : Ls) (h : 0 < ls.length) (hb : ls.length ≤ 140737488355328) : CallsR Try.prog 41 [.sl 1 (ls.map .str)] [] (aPos (ls.length - 1, (ls.getD (ls.length - 1) []).length)) [] := by
  refine callsR_of (mrg := true) (dyn := []) (CtrOK.nil _) mixed Try.func41 rfl (by simp [Try.ntmps41]) (by kernel_rfl) ?_
  rw [show Try.f41.results.toList = [.cell 2 36] from by kernel_rfl]
  simp (maxSteps := 4000000) only [↓wpA_H, ↓wpH_ret, ↓wpH_seq, ↓wpH_region, bselH_false, runH_nil, runH_cons, gw, gselH_plain, ↓chk, justK, noW, ↓oneK, ↓pureK, ↓heapK, envOf, ↓thenA_normal, ↓stepEv, opnd, Pg.look, binK, intOp, Bool.false_eq_true, implies_true, true_and, and_true, valV, heapV, footV, binV, intV, ofV, ofLeaf, retA, resK, tupA, subA, subQ, ptrsE, frzO, subF, subG, pickOf, frzE, frzC, frzL, frz0, frzH, Pg.freeze, List.foldl_nil, subOs, subEv, subV_succ, subM, subL, slen, ldCells, objAt, res_succ, resM, AV.cells, TK.cells, AV.definite, AV.leaf, AV.leafy, putCells, lay, buildL, List.getElem?_cons_succ, List.getElem?_cons_zero, Option.getD_some, reduceCtorEq, Nat.reduceEqDiff, Nat.reduceAdd, List.nil_append, List.append_nil, List.cons_append, List.length_cons, List.length_nil, List.map_cons, List.map_nil, List.set_cons_zero, Nat.zero_add, ite_true, ite_false, Option.some.injEq, Option.isSome_some, AV.int.injEq, AV.agg.injEq, List.all_cons, List.all_nil, Bool.and_self, and_self, exists_eq_left', pickOK_nil, List.length_map, List.contains_nil, getD_str, List.getD_cons_zero, cutL, List.drop_zero, List.drop_succ_cons, List.take_succ_cons, List.take_zero, Nat.sub_zero, Nat.reduceLeDiff, Nat.le_refl, List.drop_nil, List.take_nil, Nat.zero_lt_succ, tk9, dz9, tk22, tk36, tz36, dz36, aPos]
  rw [wrap64 (by omega) (by omega)]
  have e : ((ls.length : Int) - 1).toNat = ls.length - 1 := by omega
  rw [e]
  exact ⟨by omega, rfl, rfl⟩

def kMay : C1 := C1.by [.sl 1 [], .id, .id] (lCons cStrs (lCons cPos2 (lOne (cInt .i64)))) (fun _ => True) (fun d => .bool (may d.1 d.2.1 d.2.2)) (fun _ => [])
theorem ok_may : C1OK Try.prog 37 kMay := C1OK.by (by kernel_rfl) (fun d _ => calls_may d.1 d.2.1 d.2.2) (fun _ => rfl) (fun _ => rfl)
def kTo : C1 := C1.by [.id, .id] (lCons (cInt .i64) (lOne (cInt .i64))) (fun _ => True) (fun d => aMove (mTo (d.1, d.2) 0)) (fun _ => [])
theorem ok_to : C1OK Try.prog 42 kTo := C1OK.by (by kernel_rfl) (fun d _ => calls_to d.1 d.2) (fun _ => rfl) (fun _ => rfl)
def kNth : C1 := C1.by [.sl 2 [], .id, .id] (lCons (cSl 2 cPos2) (lCons (cInt .i64) (lOne (cInt .i64)))) (fun d => 1 ≤ d.2.1 ∧ d.1.length ≤ 140737488355328) (fun d => aMove (nth d.1 d.2.1 d.2.2)) (fun _ => [])
theorem ok_nth : C1OK Try.prog 40 kNth := C1OK.by (by kernel_rfl) (fun d h => calls_nth d.1 d.2.1 d.2.2 h.1 h.2) (fun _ => rfl) (fun _ => rfl)
def kEnd : C1 := C1.by [.sl 1 []] (lOne cStrs) (fun d => 0 < d.length ∧ d.length ≤ 140737488355328) (fun d => aPos (d.length - 1, (d.getD (d.length - 1) []).length)) (fun _ => [])
theorem ok_end : C1OK Try.prog 41 kEnd := C1OK.by (by kernel_rfl) (fun d h => calls_end d h.1 h.2) (fun _ => rfl) (fun _ => rfl)
end Go.Pg
namespace Go.Pg
open Go Go.Proofs

def kLine : C1 := C1.by [.sl 1 [], .id, .sl 1 []] (lCons cStrs (lCons (cAgg (lCons (cInt .i64) (lOne (cInt .i64)))) (lOne cStrs)))
  (fun d => 0 ≤ d.2.1.1 ∧ d.2.1.1 < d.1.length)
  (fun d => .agg [.int .i64 d.2.1.1, .sl 1 [.str (d.1.getD d.2.1.1.toNat [])], .sl 1 (d.2.2.map .str)]) (fun _ => [])
def kWrite : C1 := C1.by [.sl 1 [], .id, .sl 1 []] (lCons cStrs (lCons (cAgg (lCons (cInt .i64) (lOne (cInt .i64)))) (lOne cStrs)))
  (fun d => small d.1 ∧ small d.2.2)
  (fun d => .tuple [aCh (write d.1 d.2.1.1 d.2.1.2 d.2.2).1, aPos (write d.1 d.2.1.1 d.2.1.2 d.2.2).2.1, .bool (write d.1 d.2.1.1 d.2.1.2 d.2.2).2.2]) (fun _ => [])
def kLetter : C1 := C1.by [.id] (lOne (cInt .u8)) (fun _ => True) (fun n => .bool (letter n)) (fun _ => [])
theorem ok_RPlace : C1OK Try.prog 46 kPlace := C1OK.by (by kernel_rfl) (fun d _ => calls_RPlace d.1 d.2.1 d.2.2) (fun _ => rfl) (fun _ => rfl)

abbrev Typed := (Int × Ls × Ls) × (Int × Int) × Bool
def nothing : Typed := ((0, [], []), (0, 0), false)

/-- What a key does. -/
def typ (ls : Ls) (p f : Int × Int) (m : Int) (k : UInt8) : Typed :=
  let c : Int := k.toNat
  if (place ls p.1 p.2 && (m == 1 || m == 2)) = true then
    let s := ls.getD p.1.toNat []
    let a := s.take p.2.toNat
    let b := s.drop p.2.toNat
    if letter c = true then ((p.1, [s], [a ++ [k] ++ (if (m == 2) = true then b.drop 1 else b)]), (p.1, p.2 + 1), true)
    else if (c == 13 || c == 10) = true then ((p.1, [s], [a, b]), (p.1 + 1, 0), true)
    else if ((c == 8 || c == 127) && m == 1 && decide (p.2 > 0) && (p.1 != f.1 || decide (p.2 > f.2))) = true then ((p.1, [s], [s.take (p.2 - 1).toNat ++ b]), (p.1, p.2 - 1), true)
    else nothing
  else nothing

end Go.Pg
