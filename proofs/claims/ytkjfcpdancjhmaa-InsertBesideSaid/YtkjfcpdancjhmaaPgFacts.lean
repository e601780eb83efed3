/- Facts of the program's types, by the kernel. -/
import Derived.Test.YtkjfcpdancjhmaaPgLst
import Derived.Test.YtkjfcpdancjhmaaProg
import Derived.KernelRfl
namespace Go.Pg
open Go Go.Proofs
theorem mixed : Try.prog.follows .mixedOrders = true := by kernel_rfl
theorem tk1 : tk Try.prog 1 = TK.leaf := by kernel_rfl
theorem tk2 : tk Try.prog 2 = TK.int IntKind.i64 := by kernel_rfl
theorem tz2 : tz Try.prog 2 = AV.int IntKind.i64 0 := by kernel_rfl
theorem dz2 : dz Try.prog 2 = AV.int IntKind.i64 0 := by kernel_rfl
theorem eb2 : eb Try.prog 2 = some 8 := by kernel_rfl
theorem eq2 : eqK Try.prog 2 = some [1] := by kernel_rfl
theorem tk3 : tk Try.prog 3 = TK.int IntKind.i64 := by kernel_rfl
theorem tz3 : tz Try.prog 3 = AV.int IntKind.i64 0 := by kernel_rfl
theorem dz3 : dz Try.prog 3 = AV.int IntKind.i64 0 := by kernel_rfl
theorem eb3 : eb Try.prog 3 = some 8 := by kernel_rfl
theorem eq3 : eqK Try.prog 3 = some [1] := by kernel_rfl
theorem tk4 : tk Try.prog 4 = TK.bool := by kernel_rfl
theorem tz4 : tz Try.prog 4 = AV.bool false := by kernel_rfl
theorem dz4 : dz Try.prog 4 = AV.bool false := by kernel_rfl
theorem eb4 : eb Try.prog 4 = some 1 := by kernel_rfl
theorem eq4 : eqK Try.prog 4 = some [0] := by kernel_rfl
theorem tk5 : tk Try.prog 5 = TK.int IntKind.u8 := by kernel_rfl
theorem tz5 : tz Try.prog 5 = AV.int IntKind.u8 0 := by kernel_rfl
theorem dz5 : dz Try.prog 5 = AV.int IntKind.u8 0 := by kernel_rfl
theorem eb5 : eb Try.prog 5 = some 1 := by kernel_rfl
theorem eq5 : eqK Try.prog 5 = some [1] := by kernel_rfl
theorem tk6 : tk Try.prog 6 = TK.int IntKind.u8 := by kernel_rfl
theorem tz6 : tz Try.prog 6 = AV.int IntKind.u8 0 := by kernel_rfl
theorem dz6 : dz Try.prog 6 = AV.int IntKind.u8 0 := by kernel_rfl
theorem eb6 : eb Try.prog 6 = some 1 := by kernel_rfl
theorem eq6 : eqK Try.prog 6 = some [1] := by kernel_rfl
theorem tk7 : tk Try.prog 7 = TK.struct 4 [some (0, 1), some (1, 1), some (2, 1), some (3, 1)] := by kernel_rfl
theorem tz7 : tz Try.prog 7 = AV.agg [AV.int IntKind.i64 0, AV.int IntKind.i64 0, AV.bool false, AV.int IntKind.u8 0] := by kernel_rfl
theorem dz7 : dz Try.prog 7 = AV.agg [AV.int IntKind.i64 0, AV.int IntKind.i64 0, AV.bool false, AV.int IntKind.u8 0] := by kernel_rfl
theorem eb7 : eb Try.prog 7 = some 24 := by kernel_rfl
theorem eq7 : eqK Try.prog 7 = some [1, 1, 0, 1] := by kernel_rfl
theorem tk8 : tk Try.prog 8 = TK.struct 4 [some (0, 1), some (1, 1), some (2, 1), some (3, 1)] := by kernel_rfl
theorem tz8 : tz Try.prog 8 = AV.agg [AV.int IntKind.i64 0, AV.int IntKind.i64 0, AV.bool false, AV.int IntKind.u8 0] := by kernel_rfl
theorem dz8 : dz Try.prog 8 = AV.agg [AV.int IntKind.i64 0, AV.int IntKind.i64 0, AV.bool false, AV.int IntKind.u8 0] := by kernel_rfl
theorem eb8 : eb Try.prog 8 = some 24 := by kernel_rfl
theorem eq8 : eqK Try.prog 8 = some [1, 1, 0, 1] := by kernel_rfl
theorem tk9 : tk Try.prog 9 = TK.str := by kernel_rfl
theorem tz9 : tz Try.prog 9 = AV.str [] := by kernel_rfl
theorem dz9 : dz Try.prog 9 = AV.str [] := by kernel_rfl
theorem eb9 : eb Try.prog 9 = some 16 := by kernel_rfl
theorem eq9 : eqK Try.prog 9 = some [2] := by kernel_rfl
theorem tk10 : tk Try.prog 10 = TK.str := by kernel_rfl
theorem tz10 : tz Try.prog 10 = AV.str [] := by kernel_rfl
theorem dz10 : dz Try.prog 10 = AV.str [] := by kernel_rfl
theorem eb10 : eb Try.prog 10 = some 16 := by kernel_rfl
theorem eq10 : eqK Try.prog 10 = some [2] := by kernel_rfl
theorem tk11 : tk Try.prog 11 = TK.str := by kernel_rfl
theorem tz11 : tz Try.prog 11 = AV.str [] := by kernel_rfl
theorem dz11 : dz Try.prog 11 = AV.str [] := by kernel_rfl
theorem eb11 : eb Try.prog 11 = some 16 := by kernel_rfl
theorem eq11 : eqK Try.prog 11 = some [2] := by kernel_rfl
theorem tk12 : tk Try.prog 12 = TK.int IntKind.u64 := by kernel_rfl
theorem tz12 : tz Try.prog 12 = AV.int IntKind.u64 0 := by kernel_rfl
theorem dz12 : dz Try.prog 12 = AV.int IntKind.u64 0 := by kernel_rfl
theorem eb12 : eb Try.prog 12 = some 8 := by kernel_rfl
theorem eq12 : eqK Try.prog 12 = some [1] := by kernel_rfl
theorem tk13 : tk Try.prog 13 = TK.struct 2 [some (0, 1), some (1, 1)] := by kernel_rfl
theorem tz13 : tz Try.prog 13 = AV.agg [AV.str [], AV.int IntKind.u64 0] := by kernel_rfl
theorem dz13 : dz Try.prog 13 = AV.agg [AV.str [], AV.int IntKind.u64 0] := by kernel_rfl
theorem eb13 : eb Try.prog 13 = some 24 := by kernel_rfl
theorem tk14 : tk Try.prog 14 = TK.struct 2 [some (0, 1), some (1, 1)] := by kernel_rfl
theorem tz14 : tz Try.prog 14 = AV.agg [AV.str [], AV.int IntKind.u64 0] := by kernel_rfl
theorem dz14 : dz Try.prog 14 = AV.agg [AV.str [], AV.int IntKind.u64 0] := by kernel_rfl
theorem eb14 : eb Try.prog 14 = some 24 := by kernel_rfl
theorem tk15 : tk Try.prog 15 = TK.leaf := by kernel_rfl
theorem tk16 : tk Try.prog 16 = TK.leaf := by kernel_rfl
theorem tk17 : tk Try.prog 17 = TK.leaf := by kernel_rfl
theorem tk18 : tk Try.prog 18 = TK.struct 1 [some (0, 1)] := by kernel_rfl
theorem tz18 : tz Try.prog 18 = AV.agg [AV.top] := by kernel_rfl
theorem dz18 : dz Try.prog 18 = AV.agg [AV.top] := by kernel_rfl
theorem eb18 : eb Try.prog 18 = some 8 := by kernel_rfl
theorem tk19 : tk Try.prog 19 = TK.struct 1 [some (0, 1)] := by kernel_rfl
theorem tz19 : tz Try.prog 19 = AV.agg [AV.top] := by kernel_rfl
theorem dz19 : dz Try.prog 19 = AV.agg [AV.top] := by kernel_rfl
theorem eb19 : eb Try.prog 19 = some 8 := by kernel_rfl
theorem tk20 : tk Try.prog 20 = TK.leaf := by kernel_rfl
theorem tk21 : tk Try.prog 21 = TK.int IntKind.i32 := by kernel_rfl
theorem tz21 : tz Try.prog 21 = AV.int IntKind.i32 0 := by kernel_rfl
theorem dz21 : dz Try.prog 21 = AV.int IntKind.i32 0 := by kernel_rfl
theorem eb21 : eb Try.prog 21 = some 4 := by kernel_rfl
theorem eq21 : eqK Try.prog 21 = some [1] := by kernel_rfl
theorem tk22 : tk Try.prog 22 = TK.slice 9 1 := by kernel_rfl
theorem tz22 : tz Try.prog 22 = AV.nls := by kernel_rfl
theorem dz22 : dz Try.prog 22 = AV.sl 1 [] := by kernel_rfl
theorem eb22 : eb Try.prog 22 = some 24 := by kernel_rfl
theorem tk23 : tk Try.prog 23 = TK.struct 2 [some (0, 1), some (1, 1)] := by kernel_rfl
theorem tz23 : tz Try.prog 23 = AV.agg [AV.int IntKind.i64 0, AV.int IntKind.i64 0] := by kernel_rfl
theorem dz23 : dz Try.prog 23 = AV.agg [AV.int IntKind.i64 0, AV.int IntKind.i64 0] := by kernel_rfl
theorem eb23 : eb Try.prog 23 = some 16 := by kernel_rfl
theorem eq23 : eqK Try.prog 23 = some [1, 1] := by kernel_rfl
theorem tk24 : tk Try.prog 24 = TK.struct 2 [some (0, 1), some (1, 1)] := by kernel_rfl
theorem tz24 : tz Try.prog 24 = AV.agg [AV.int IntKind.i64 0, AV.int IntKind.i64 0] := by kernel_rfl
theorem dz24 : dz Try.prog 24 = AV.agg [AV.int IntKind.i64 0, AV.int IntKind.i64 0] := by kernel_rfl
theorem eb24 : eb Try.prog 24 = some 16 := by kernel_rfl
theorem eq24 : eqK Try.prog 24 = some [1, 1] := by kernel_rfl
theorem tk25 : tk Try.prog 25 = TK.int IntKind.u16 := by kernel_rfl
theorem tz25 : tz Try.prog 25 = AV.int IntKind.u16 0 := by kernel_rfl
theorem dz25 : dz Try.prog 25 = AV.int IntKind.u16 0 := by kernel_rfl
theorem eb25 : eb Try.prog 25 = some 2 := by kernel_rfl
theorem eq25 : eqK Try.prog 25 = some [1] := by kernel_rfl
theorem tk26 : tk Try.prog 26 = TK.leaf := by kernel_rfl
theorem tk27 : tk Try.prog 27 = TK.leaf := by kernel_rfl
theorem tk28 : tk Try.prog 28 = TK.leaf := by kernel_rfl
theorem tk29 : tk Try.prog 29 = TK.slice 24 2 := by kernel_rfl
theorem tz29 : tz Try.prog 29 = AV.nls := by kernel_rfl
theorem dz29 : dz Try.prog 29 = AV.sl 2 [] := by kernel_rfl
theorem eb29 : eb Try.prog 29 = some 24 := by kernel_rfl
theorem tk30 : tk Try.prog 30 = TK.slice 3 1 := by kernel_rfl
theorem tz30 : tz Try.prog 30 = AV.nls := by kernel_rfl
theorem dz30 : dz Try.prog 30 = AV.sl 1 [] := by kernel_rfl
theorem eb30 : eb Try.prog 30 = some 24 := by kernel_rfl
theorem tk31 : tk Try.prog 31 = TK.slice 5 1 := by kernel_rfl
theorem tz31 : tz Try.prog 31 = AV.nls := by kernel_rfl
theorem dz31 : dz Try.prog 31 = AV.sl 1 [] := by kernel_rfl
theorem eb31 : eb Try.prog 31 = some 24 := by kernel_rfl
theorem tk32 : tk Try.prog 32 = TK.struct 3 [some (0, 1), some (1, 1), some (2, 1)] := by kernel_rfl
theorem tz32 : tz Try.prog 32 = AV.agg [AV.int IntKind.i64 0, AV.nls, AV.nls] := by kernel_rfl
theorem dz32 : dz Try.prog 32 = AV.agg [AV.int IntKind.i64 0, AV.sl 1 [], AV.sl 1 []] := by kernel_rfl
theorem eb32 : eb Try.prog 32 = some 56 := by kernel_rfl
theorem tk33 : tk Try.prog 33 = TK.struct 3 [some (0, 1), some (1, 1), some (2, 1)] := by kernel_rfl
theorem tz33 : tz Try.prog 33 = AV.agg [AV.int IntKind.i64 0, AV.nls, AV.nls] := by kernel_rfl
theorem dz33 : dz Try.prog 33 = AV.agg [AV.int IntKind.i64 0, AV.sl 1 [], AV.sl 1 []] := by kernel_rfl
theorem eb33 : eb Try.prog 33 = some 56 := by kernel_rfl
theorem tk35 : tk Try.prog 35 = TK.leaf := by kernel_rfl
theorem tk36 : tk Try.prog 36 = TK.leaf := by kernel_rfl
theorem tk37 : tk Try.prog 37 = TK.leaf := by kernel_rfl
theorem tk38 : tk Try.prog 38 = TK.leaf := by kernel_rfl
theorem tk39 : tk Try.prog 39 = TK.leaf := by kernel_rfl
theorem tk41 : tk Try.prog 41 = TK.leaf := by kernel_rfl
theorem tk42 : tk Try.prog 42 = TK.leaf := by kernel_rfl
theorem tk43 : tk Try.prog 43 = TK.leaf := by kernel_rfl
theorem tk44 : tk Try.prog 44 = TK.leaf := by kernel_rfl
theorem tk46 : tk Try.prog 46 = TK.leaf := by kernel_rfl
theorem tk47 : tk Try.prog 47 = TK.slice 33 3 := by kernel_rfl
theorem tz47 : tz Try.prog 47 = AV.nls := by kernel_rfl
theorem dz47 : dz Try.prog 47 = AV.sl 3 [] := by kernel_rfl
theorem eb47 : eb Try.prog 47 = some 24 := by kernel_rfl
theorem tk48 : tk Try.prog 48 = TK.leaf := by kernel_rfl
theorem tk49 : tk Try.prog 49 = TK.leaf := by kernel_rfl
theorem tk50 : tk Try.prog 50 = TK.leaf := by kernel_rfl
theorem tk52 : tk Try.prog 52 = TK.leaf := by kernel_rfl
theorem tk53 : tk Try.prog 53 = TK.leaf := by kernel_rfl
theorem tk54 : tk Try.prog 54 = TK.leaf := by kernel_rfl
theorem tk55 : tk Try.prog 55 = TK.leaf := by kernel_rfl
theorem tk56 : tk Try.prog 56 = TK.leaf := by kernel_rfl
theorem tk57 : tk Try.prog 57 = TK.leaf := by kernel_rfl
theorem tk58 : tk Try.prog 58 = TK.leaf := by kernel_rfl
theorem tk59 : tk Try.prog 59 = TK.struct 5 [some (0, 2), some (2, 1), some (3, 1), some (4, 1)] := by kernel_rfl
theorem tz59 : tz Try.prog 59 = AV.agg [AV.int IntKind.i64 0, AV.int IntKind.i64 0, AV.int IntKind.i64 0, AV.bool false, AV.int IntKind.i64 0] := by kernel_rfl
theorem dz59 : dz Try.prog 59 = AV.agg [AV.int IntKind.i64 0, AV.int IntKind.i64 0, AV.int IntKind.i64 0, AV.bool false, AV.int IntKind.i64 0] := by kernel_rfl
theorem eb59 : eb Try.prog 59 = some 40 := by kernel_rfl
theorem eq59 : eqK Try.prog 59 = some [1, 1, 1, 0, 1] := by kernel_rfl
theorem tk60 : tk Try.prog 60 = TK.struct 5 [some (0, 2), some (2, 1), some (3, 1), some (4, 1)] := by kernel_rfl
theorem tz60 : tz Try.prog 60 = AV.agg [AV.int IntKind.i64 0, AV.int IntKind.i64 0, AV.int IntKind.i64 0, AV.bool false, AV.int IntKind.i64 0] := by kernel_rfl
theorem dz60 : dz Try.prog 60 = AV.agg [AV.int IntKind.i64 0, AV.int IntKind.i64 0, AV.int IntKind.i64 0, AV.bool false, AV.int IntKind.i64 0] := by kernel_rfl
theorem eb60 : eb Try.prog 60 = some 40 := by kernel_rfl
theorem eq60 : eqK Try.prog 60 = some [1, 1, 1, 0, 1] := by kernel_rfl
theorem tk62 : tk Try.prog 62 = TK.leaf := by kernel_rfl
theorem tk63 : tk Try.prog 63 = TK.leaf := by kernel_rfl
theorem tk64 : tk Try.prog 64 = TK.leaf := by kernel_rfl
theorem tk65 : tk Try.prog 65 = TK.leaf := by kernel_rfl
theorem tk66 : tk Try.prog 66 = TK.leaf := by kernel_rfl
theorem tk67 : tk Try.prog 67 = TK.leaf := by kernel_rfl
theorem tk68 : tk Try.prog 68 = TK.leaf := by kernel_rfl
theorem tk69 : tk Try.prog 69 = TK.arr 3 3 1 3 := by kernel_rfl
theorem tz69 : tz Try.prog 69 = AV.agg [AV.int IntKind.i64 0, AV.int IntKind.i64 0, AV.int IntKind.i64 0] := by kernel_rfl
theorem dz69 : dz Try.prog 69 = AV.agg [AV.int IntKind.i64 0, AV.int IntKind.i64 0, AV.int IntKind.i64 0] := by kernel_rfl
theorem eb69 : eb Try.prog 69 = some 24 := by kernel_rfl
theorem tk70 : tk Try.prog 70 = TK.slice 69 3 := by kernel_rfl
theorem tz70 : tz Try.prog 70 = AV.nls := by kernel_rfl
theorem dz70 : dz Try.prog 70 = AV.sl 3 [] := by kernel_rfl
theorem eb70 : eb Try.prog 70 = some 24 := by kernel_rfl
theorem tk72 : tk Try.prog 72 = TK.leaf := by kernel_rfl
theorem tk73 : tk Try.prog 73 = TK.leaf := by kernel_rfl
theorem tk74 : tk Try.prog 74 = TK.leaf := by kernel_rfl
theorem tk75 : tk Try.prog 75 = TK.leaf := by kernel_rfl
theorem tk76 : tk Try.prog 76 = TK.leaf := by kernel_rfl
theorem tk77 : tk Try.prog 77 = TK.leaf := by kernel_rfl
theorem tk78 : tk Try.prog 78 = TK.leaf := by kernel_rfl
theorem tk79 : tk Try.prog 79 = TK.leaf := by kernel_rfl
theorem tk80 : tk Try.prog 80 = TK.leaf := by kernel_rfl
theorem tk81 : tk Try.prog 81 = TK.leaf := by kernel_rfl
theorem tk82 : tk Try.prog 82 = TK.leaf := by kernel_rfl
theorem tk83 : tk Try.prog 83 = TK.leaf := by kernel_rfl
theorem tk85 : tk Try.prog 85 = TK.leaf := by kernel_rfl
theorem tk86 : tk Try.prog 86 = TK.leaf := by kernel_rfl
theorem tk87 : tk Try.prog 87 = TK.leaf := by kernel_rfl
theorem tk88 : tk Try.prog 88 = TK.leaf := by kernel_rfl
theorem tk89 : tk Try.prog 89 = TK.leaf := by kernel_rfl
theorem tk90 : tk Try.prog 90 = TK.leaf := by kernel_rfl
theorem tk91 : tk Try.prog 91 = TK.leaf := by kernel_rfl
theorem tk92 : tk Try.prog 92 = TK.leaf := by kernel_rfl
theorem tk93 : tk Try.prog 93 = TK.leaf := by kernel_rfl
theorem tk94 : tk Try.prog 94 = TK.leaf := by kernel_rfl
theorem tk95 : tk Try.prog 95 = TK.leaf := by kernel_rfl
theorem tk96 : tk Try.prog 96 = TK.leaf := by kernel_rfl
theorem tk97 : tk Try.prog 97 = TK.leaf := by kernel_rfl
theorem tk98 : tk Try.prog 98 = TK.leaf := by kernel_rfl
theorem tk99 : tk Try.prog 99 = TK.int IntKind.u64 := by kernel_rfl
theorem tz99 : tz Try.prog 99 = AV.int IntKind.u64 0 := by kernel_rfl
theorem dz99 : dz Try.prog 99 = AV.int IntKind.u64 0 := by kernel_rfl
theorem eb99 : eb Try.prog 99 = some 8 := by kernel_rfl
theorem eq99 : eqK Try.prog 99 = some [1] := by kernel_rfl
theorem tk101 : tk Try.prog 101 = TK.leaf := by kernel_rfl
theorem tk102 : tk Try.prog 102 = TK.leaf := by kernel_rfl
theorem tk103 : tk Try.prog 103 = TK.struct 2 [some (0, 1), some (1, 1)] := by kernel_rfl
theorem tz103 : tz Try.prog 103 = AV.agg [AV.top, AV.nls] := by kernel_rfl
theorem dz103 : dz Try.prog 103 = AV.agg [AV.top, AV.sl 1 []] := by kernel_rfl
theorem eb103 : eb Try.prog 103 = some 32 := by kernel_rfl
theorem tk104 : tk Try.prog 104 = TK.struct 2 [some (0, 1), some (1, 1)] := by kernel_rfl
theorem tz104 : tz Try.prog 104 = AV.agg [AV.top, AV.nls] := by kernel_rfl
theorem dz104 : dz Try.prog 104 = AV.agg [AV.top, AV.sl 1 []] := by kernel_rfl
theorem eb104 : eb Try.prog 104 = some 32 := by kernel_rfl
theorem tk105 : tk Try.prog 105 = TK.leaf := by kernel_rfl
theorem tk106 : tk Try.prog 106 = TK.leaf := by kernel_rfl
theorem tk107 : tk Try.prog 107 = TK.leaf := by kernel_rfl
theorem tk109 : tk Try.prog 109 = TK.leaf := by kernel_rfl
theorem tk110 : tk Try.prog 110 = TK.leaf := by kernel_rfl
theorem tk111 : tk Try.prog 111 = TK.leaf := by kernel_rfl
theorem tk112 : tk Try.prog 112 = TK.int IntKind.u32 := by kernel_rfl
theorem tz112 : tz Try.prog 112 = AV.int IntKind.u32 0 := by kernel_rfl
theorem dz112 : dz Try.prog 112 = AV.int IntKind.u32 0 := by kernel_rfl
theorem eb112 : eb Try.prog 112 = some 4 := by kernel_rfl
theorem eq112 : eqK Try.prog 112 = some [1] := by kernel_rfl
theorem tk114 : tk Try.prog 114 = TK.leaf := by kernel_rfl
theorem tk115 : tk Try.prog 115 = TK.int IntKind.u64 := by kernel_rfl
theorem tz115 : tz Try.prog 115 = AV.int IntKind.u64 0 := by kernel_rfl
theorem dz115 : dz Try.prog 115 = AV.int IntKind.u64 0 := by kernel_rfl
theorem eb115 : eb Try.prog 115 = some 8 := by kernel_rfl
theorem eq115 : eqK Try.prog 115 = some [1] := by kernel_rfl
theorem tk117 : tk Try.prog 117 = TK.leaf := by kernel_rfl
theorem tk118 : tk Try.prog 118 = TK.leaf := by kernel_rfl
theorem tk119 : tk Try.prog 119 = TK.leaf := by kernel_rfl
theorem tk120 : tk Try.prog 120 = TK.leaf := by kernel_rfl
theorem tk122 : tk Try.prog 122 = TK.leaf := by kernel_rfl
theorem tk123 : tk Try.prog 123 = TK.leaf := by kernel_rfl
theorem tk124 : tk Try.prog 124 = TK.leaf := by kernel_rfl
theorem tk125 : tk Try.prog 125 = TK.struct 4 [some (0, 1), some (1, 1), some (2, 1), some (3, 1)] := by kernel_rfl
theorem tz125 : tz Try.prog 125 = AV.agg [AV.top, AV.top, AV.top, AV.str []] := by kernel_rfl
theorem dz125 : dz Try.prog 125 = AV.agg [AV.top, AV.top, AV.top, AV.str []] := by kernel_rfl
theorem eb125 : eb Try.prog 125 = some 40 := by kernel_rfl
theorem tk126 : tk Try.prog 126 = TK.struct 4 [some (0, 1), some (1, 1), some (2, 1), some (3, 1)] := by kernel_rfl
theorem tz126 : tz Try.prog 126 = AV.agg [AV.top, AV.top, AV.top, AV.str []] := by kernel_rfl
theorem dz126 : dz Try.prog 126 = AV.agg [AV.top, AV.top, AV.top, AV.str []] := by kernel_rfl
theorem eb126 : eb Try.prog 126 = some 40 := by kernel_rfl
theorem tk127 : tk Try.prog 127 = TK.arr 0 16 1 0 := by kernel_rfl
theorem tz127 : tz Try.prog 127 = AV.agg [] := by kernel_rfl
theorem dz127 : dz Try.prog 127 = AV.agg [] := by kernel_rfl
theorem tk128 : tk Try.prog 128 = TK.struct 0 [none] := by kernel_rfl
theorem tz128 : tz Try.prog 128 = AV.agg [] := by kernel_rfl
theorem dz128 : dz Try.prog 128 = AV.agg [] := by kernel_rfl
theorem tk129 : tk Try.prog 129 = TK.struct 0 [none] := by kernel_rfl
theorem tz129 : tz Try.prog 129 = AV.agg [] := by kernel_rfl
theorem dz129 : dz Try.prog 129 = AV.agg [] := by kernel_rfl
theorem tk130 : tk Try.prog 130 = TK.int IntKind.u8 := by kernel_rfl
theorem tz130 : tz Try.prog 130 = AV.int IntKind.u8 0 := by kernel_rfl
theorem dz130 : dz Try.prog 130 = AV.int IntKind.u8 0 := by kernel_rfl
theorem eb130 : eb Try.prog 130 = some 1 := by kernel_rfl
theorem eq130 : eqK Try.prog 130 = some [1] := by kernel_rfl
theorem tk131 : tk Try.prog 131 = TK.int IntKind.u8 := by kernel_rfl
theorem tz131 : tz Try.prog 131 = AV.int IntKind.u8 0 := by kernel_rfl
theorem dz131 : dz Try.prog 131 = AV.int IntKind.u8 0 := by kernel_rfl
theorem eb131 : eb Try.prog 131 = some 1 := by kernel_rfl
theorem eq131 : eqK Try.prog 131 = some [1] := by kernel_rfl
theorem tk132 : tk Try.prog 132 = TK.leaf := by kernel_rfl
theorem tk133 : tk Try.prog 133 = TK.int IntKind.i32 := by kernel_rfl
theorem tz133 : tz Try.prog 133 = AV.int IntKind.i32 0 := by kernel_rfl
theorem dz133 : dz Try.prog 133 = AV.int IntKind.i32 0 := by kernel_rfl
theorem eb133 : eb Try.prog 133 = some 4 := by kernel_rfl
theorem eq133 : eqK Try.prog 133 = some [1] := by kernel_rfl
theorem tk134 : tk Try.prog 134 = TK.int IntKind.i32 := by kernel_rfl
theorem tz134 : tz Try.prog 134 = AV.int IntKind.i32 0 := by kernel_rfl
theorem dz134 : dz Try.prog 134 = AV.int IntKind.i32 0 := by kernel_rfl
theorem eb134 : eb Try.prog 134 = some 4 := by kernel_rfl
theorem eq134 : eqK Try.prog 134 = some [1] := by kernel_rfl
theorem tk135 : tk Try.prog 135 = TK.struct 11 [some (0, 1), some (1, 1), some (2, 1), some (3, 1), some (4, 1), some (5, 1), some (6, 1), some (7, 1), some (8, 1), some (9, 1), some (10, 1)] := by kernel_rfl
theorem tz135 : tz Try.prog 135 = AV.agg [AV.int IntKind.u64 0, AV.int IntKind.u64 0, AV.int IntKind.u32 0, AV.int IntKind.u8 0, AV.int IntKind.u8 0, AV.int IntKind.u8 0, AV.int IntKind.u8 0, AV.top, AV.top, AV.int IntKind.i32 0, AV.int IntKind.i32 0] := by kernel_rfl
theorem dz135 : dz Try.prog 135 = AV.agg [AV.int IntKind.u64 0, AV.int IntKind.u64 0, AV.int IntKind.u32 0, AV.int IntKind.u8 0, AV.int IntKind.u8 0, AV.int IntKind.u8 0, AV.int IntKind.u8 0, AV.top, AV.top, AV.int IntKind.i32 0, AV.int IntKind.i32 0] := by kernel_rfl
theorem eb135 : eb Try.prog 135 = some 48 := by kernel_rfl
theorem tk136 : tk Try.prog 136 = TK.struct 11 [some (0, 1), some (1, 1), some (2, 1), some (3, 1), some (4, 1), some (5, 1), some (6, 1), some (7, 1), some (8, 1), some (9, 1), some (10, 1)] := by kernel_rfl
theorem tz136 : tz Try.prog 136 = AV.agg [AV.int IntKind.u64 0, AV.int IntKind.u64 0, AV.int IntKind.u32 0, AV.int IntKind.u8 0, AV.int IntKind.u8 0, AV.int IntKind.u8 0, AV.int IntKind.u8 0, AV.top, AV.top, AV.int IntKind.i32 0, AV.int IntKind.i32 0] := by kernel_rfl
theorem dz136 : dz Try.prog 136 = AV.agg [AV.int IntKind.u64 0, AV.int IntKind.u64 0, AV.int IntKind.u32 0, AV.int IntKind.u8 0, AV.int IntKind.u8 0, AV.int IntKind.u8 0, AV.int IntKind.u8 0, AV.top, AV.top, AV.int IntKind.i32 0, AV.int IntKind.i32 0] := by kernel_rfl
theorem eb136 : eb Try.prog 136 = some 48 := by kernel_rfl
end Go.Pg
