/- Facts of the program's types, by the kernel. Lists of strings are compared as they are. Letters, places, copies of lists. Lists of lines, places. Classes of bytes, places in order. -/
import Derived.Test.YtkkcfkggfpoagaaGreatPgLst
import Derived.Test.YtkkcfkggfpoagaaGreatProg
import Derived.KernelRfl
import Derived.Test.YtkkcfkggfpoagaaGreatPgBs
import Derived.Test.YtkkcfkggfpoagaaGreatPgHcd
set_option linter.unusedVariables false
set_option linter.unusedSimpArgs false
namespace Go.Pg
open Go Go.Proofs
theorem mixed : Tryz.prog.follows .mixedOrders = true := by kernel_rfl
theorem tk3 : tk Tryz.prog 3 = TK.int IntKind.i64 := by kernel_rfl
theorem tz3 : tz Tryz.prog 3 = AV.int IntKind.i64 0 := by kernel_rfl
theorem dz3 : dz Tryz.prog 3 = AV.int IntKind.i64 0 := by kernel_rfl
theorem eb3 : eb Tryz.prog 3 = some 8 := by kernel_rfl
theorem eq3 : eqK Tryz.prog 3 = some [1] := by kernel_rfl
theorem tk4 : tk Tryz.prog 4 = TK.bool := by kernel_rfl
theorem tz4 : tz Tryz.prog 4 = AV.bool false := by kernel_rfl
theorem dz4 : dz Tryz.prog 4 = AV.bool false := by kernel_rfl
theorem eb4 : eb Tryz.prog 4 = some 1 := by kernel_rfl
theorem eq4 : eqK Tryz.prog 4 = some [0] := by kernel_rfl
theorem tk5 : tk Tryz.prog 5 = TK.int IntKind.u8 := by kernel_rfl
theorem tz5 : tz Tryz.prog 5 = AV.int IntKind.u8 0 := by kernel_rfl
theorem dz5 : dz Tryz.prog 5 = AV.int IntKind.u8 0 := by kernel_rfl
theorem eb5 : eb Tryz.prog 5 = some 1 := by kernel_rfl
theorem eq5 : eqK Tryz.prog 5 = some [1] := by kernel_rfl
theorem tk9 : tk Tryz.prog 9 = TK.str := by kernel_rfl
theorem tz9 : tz Tryz.prog 9 = AV.str [] := by kernel_rfl
theorem dz9 : dz Tryz.prog 9 = AV.str [] := by kernel_rfl
theorem eb9 : eb Tryz.prog 9 = some 16 := by kernel_rfl
theorem eq9 : eqK Tryz.prog 9 = some [2] := by kernel_rfl
theorem tk22 : tk Tryz.prog 22 = TK.slice 9 1 := by kernel_rfl
theorem tz22 : tz Tryz.prog 22 = AV.nls := by kernel_rfl
theorem dz22 : dz Tryz.prog 22 = AV.sl 1 [] := by kernel_rfl
theorem eb22 : eb Tryz.prog 22 = some 24 := by kernel_rfl
theorem tk23 : tk Tryz.prog 23 = TK.int IntKind.u16 := by kernel_rfl
theorem tk25 : tk Tryz.prog 25 = TK.struct 2 [some (0, 1), some (1, 1)] := by kernel_rfl
theorem tz25 : tz Tryz.prog 25 = AV.agg [AV.int IntKind.i64 0, AV.int IntKind.i64 0] := by kernel_rfl
theorem dz25 : dz Tryz.prog 25 = AV.agg [AV.int IntKind.i64 0, AV.int IntKind.i64 0] := by kernel_rfl
theorem eb25 : eb Tryz.prog 25 = some 16 := by kernel_rfl
theorem eq25 : eqK Tryz.prog 25 = some [1, 1] := by kernel_rfl
theorem tk27 : tk Tryz.prog 27 = TK.struct 8 [some (0, 2), some (2, 1), some (3, 1), some (4, 1), some (5, 1), some (6, 1), some (7, 1)] := by kernel_rfl
theorem tz27 : tz Tryz.prog 27 = AV.agg [AV.int IntKind.i64 0, AV.int IntKind.i64 0, AV.int IntKind.i64 0, AV.int IntKind.i64 0, AV.int IntKind.u8 0, AV.int IntKind.u8 0, AV.str [], AV.bool false] := by kernel_rfl
theorem dz27 : dz Tryz.prog 27 = AV.agg [AV.int IntKind.i64 0, AV.int IntKind.i64 0, AV.int IntKind.i64 0, AV.int IntKind.i64 0, AV.int IntKind.u8 0, AV.int IntKind.u8 0, AV.str [], AV.bool false] := by kernel_rfl
theorem tk29 : tk Tryz.prog 29 = TK.struct 6 [some (0, 1), some (1, 1), some (2, 1), some (3, 1), some (4, 1), some (5, 1)] := by kernel_rfl
theorem tz29 : tz Tryz.prog 29 = AV.agg [AV.int IntKind.u8 0, AV.int IntKind.i64 0, AV.str [], AV.str [], AV.int IntKind.u8 0, AV.str []] := by kernel_rfl
theorem dz29 : dz Tryz.prog 29 = AV.agg [AV.int IntKind.u8 0, AV.int IntKind.i64 0, AV.str [], AV.str [], AV.int IntKind.u8 0, AV.str []] := by kernel_rfl
theorem eb29 : eb Tryz.prog 29 = some 72 := by kernel_rfl
theorem eq29 : eqK Tryz.prog 29 = some [1, 1, 2, 2, 1, 2] := by kernel_rfl
theorem tk30 : tk Tryz.prog 30 = TK.slice 5 1 := by kernel_rfl
theorem tk31 : tk Tryz.prog 31 = TK.slice 42 3 := by kernel_rfl
theorem tk34 : tk Tryz.prog 34 = TK.leaf := by kernel_rfl
theorem tz34 : tz Tryz.prog 34 = AV.npt := by kernel_rfl
theorem dz34 : dz Tryz.prog 34 = AV.npt := by kernel_rfl
theorem pt34 : ptrT Tryz.prog 34 = true := by kernel_rfl
theorem tk36 : tk Tryz.prog 36 = TK.leaf := by kernel_rfl
theorem tz36 : tz Tryz.prog 36 = AV.npt := by kernel_rfl
theorem dz36 : dz Tryz.prog 36 = AV.npt := by kernel_rfl
theorem pt36 : ptrT Tryz.prog 36 = true := by kernel_rfl
theorem tk37 : tk Tryz.prog 37 = TK.slice 25 2 := by kernel_rfl
theorem tz37 : tz Tryz.prog 37 = AV.nls := by kernel_rfl
theorem dz37 : dz Tryz.prog 37 = AV.sl 2 [] := by kernel_rfl
theorem eb37 : eb Tryz.prog 37 = some 24 := by kernel_rfl
theorem tk39 : tk Tryz.prog 39 = TK.struct 2 [some (0, 1), some (1, 1)] := by kernel_rfl
theorem tz39 : tz Tryz.prog 39 = AV.agg [AV.nls, AV.nls] := by kernel_rfl
theorem dz39 : dz Tryz.prog 39 = AV.agg [AV.sl 1 [], AV.sl 2 []] := by kernel_rfl
theorem tk42 : tk Tryz.prog 42 = TK.struct 3 [some (0, 1), some (1, 2)] := by kernel_rfl
theorem dz42 : dz Tryz.prog 42 = AV.agg [AV.int IntKind.u8 0, AV.int IntKind.i64 0, AV.int IntKind.i64 0] := by kernel_rfl
theorem tk44 : tk Tryz.prog 44 = TK.struct 8 [some (0, 2), some (2, 1), some (3, 1), some (4, 1), some (5, 1), some (6, 1), some (7, 1)] := by kernel_rfl
theorem tz44 : tz Tryz.prog 44 = AV.agg [AV.int IntKind.i64 0, AV.int IntKind.i64 0, AV.int IntKind.i64 0, AV.int IntKind.i64 0, AV.int IntKind.u8 0, AV.int IntKind.u8 0, AV.str [], AV.bool false] := by kernel_rfl
theorem dz44 : dz Tryz.prog 44 = AV.agg [AV.int IntKind.i64 0, AV.int IntKind.i64 0, AV.int IntKind.i64 0, AV.int IntKind.i64 0, AV.int IntKind.u8 0, AV.int IntKind.u8 0, AV.str [], AV.bool false] := by kernel_rfl
theorem eb44 : eb Tryz.prog 44 = some 64 := by kernel_rfl
theorem eq44 : eqK Tryz.prog 44 = some [1, 1, 1, 1, 1, 1, 2, 0] := by kernel_rfl
theorem tk49 : tk Tryz.prog 49 = TK.struct 5 [some (0, 2), some (2, 1), some (3, 1), some (4, 1)] := by kernel_rfl
theorem tz49 : tz Tryz.prog 49 = AV.agg [AV.int IntKind.i64 0, AV.int IntKind.i64 0, AV.int IntKind.i64 0, AV.bool false, AV.int IntKind.i64 0] := by kernel_rfl
theorem dz49 : dz Tryz.prog 49 = AV.agg [AV.int IntKind.i64 0, AV.int IntKind.i64 0, AV.int IntKind.i64 0, AV.bool false, AV.int IntKind.i64 0] := by kernel_rfl
theorem eb49 : eb Tryz.prog 49 = some 40 := by kernel_rfl
theorem eq49 : eqK Tryz.prog 49 = some [1, 1, 1, 0, 1] := by kernel_rfl
theorem tk52 : tk Tryz.prog 52 = TK.leaf := by kernel_rfl
theorem tk54 : tk Tryz.prog 54 = TK.leaf := by kernel_rfl
theorem tz54 : tz Tryz.prog 54 = AV.npt := by kernel_rfl
theorem dz54 : dz Tryz.prog 54 = AV.npt := by kernel_rfl
theorem pt54 : ptrT Tryz.prog 54 = true := by kernel_rfl
theorem tk56 : tk Tryz.prog 56 = TK.leaf := by kernel_rfl
theorem mt56 : mapT Tryz.prog 56 = some (some IntKind.u8, 25) := by kernel_rfl
theorem tk58 : tk Tryz.prog 58 = TK.struct 1 [some (0, 1)] := by kernel_rfl
theorem tz58 : tz Tryz.prog 58 = AV.agg [AV.top] := by kernel_rfl
theorem dz58 : dz Tryz.prog 58 = AV.agg [AV.top] := by kernel_rfl
theorem tk68 : tk Tryz.prog 68 = TK.struct 10 [some (0, 1), some (1, 1), some (2, 6), some (8, 1), some (9, 1)] := by kernel_rfl
theorem tz68 : tz Tryz.prog 68 = AV.agg [AV.nls, AV.npt, AV.int IntKind.u8 0, AV.int IntKind.i64 0, AV.str [], AV.str [], AV.int IntKind.u8 0, AV.str [], AV.int IntKind.i64 0, AV.bool false] := by kernel_rfl
theorem dz68 : dz Tryz.prog 68 = AV.agg [AV.sl 1 [], AV.npt, AV.int IntKind.u8 0, AV.int IntKind.i64 0, AV.str [], AV.str [], AV.int IntKind.u8 0, AV.str [], AV.int IntKind.i64 0, AV.bool false] := by kernel_rfl
theorem eb68 : eb Tryz.prog 68 = some 120 := by kernel_rfl
theorem tk117 : tk Tryz.prog 117 = TK.leaf := by kernel_rfl
theorem tk128 : tk Tryz.prog 128 = TK.slice 3 1 := by kernel_rfl
theorem tk137 : tk Tryz.prog 137 = TK.slice 37 1 := by kernel_rfl
end Go.Pg
namespace Go.Pg
open Go Go.Proofs

end Go.Pg
namespace Go.Pg
open Go Go.Proofs

def place (ls : List (List UInt8)) (l c : Int) : Bool :=
  decide (l ≥ 0) && decide (l < ls.length) && decide (c ≥ 0) && decide (c ≤ (ls.getD l.toNat []).length)

theorem calls_Place (ls : List (List UInt8)) (l c : Int) : CallsR Tryz.prog 102 [.sl 1 (ls.map .str), .agg [.int .i64 l, .int .i64 c]] [] (.bool (place ls l c)) [] := by
  refine callsR_of (mrg := true) (dyn := []) (CtrOK.nil _) mixed Tryz.func102 rfl (by simp [Tryz.ntmps102]) (by kernel_rfl) ?_
  rw [show Tryz.f102.results.toList = [.tmp 4] from by kernel_rfl]
  simp (maxSteps := 4000000) only [go_sem, Nat.reduceAdd, reduceCtorEq, Nat.reduceEqDiff, tk3, tk9, dz9, tk22, tk25, dz25]
  refine ⟨fun h => ?_, rfl⟩
  have h' := h
  simp at h'
  exact ⟨h, by omega, by omega⟩

theorem calls_RPlace (ls : List (List UInt8)) (l c : Int) : CallsR Tryz.prog 118 [.sl 1 (ls.map .str), .agg [.int .i64 l, .int .i64 c]] [] (.bool (place ls l c)) [] := by
  refine callsR_of (mrg := true) (dyn := []) (CtrOK.nil _) mixed Tryz.func118 rfl (by simp [Tryz.ntmps118]) (by kernel_rfl) ?_
  rw [show Tryz.f118.results.toList = [.tmp 4] from by kernel_rfl]
  simp (maxSteps := 4000000) only [go_sem, Nat.reduceAdd, reduceCtorEq, Nat.reduceEqDiff, tk3, tk9, dz9, tk22, tk25, dz25]
  refine ⟨fun h => ?_, rfl⟩
  have h' := h
  simp at h'
  exact ⟨h, by omega, by omega⟩

end Go.Pg
namespace Go.Pg
open Go Go.Proofs

abbrev Ls := List (List UInt8)
def aPos (p : Int × Int) : AV := .agg [.int .i64 p.1, .int .i64 p.2]
theorem getD_pos (l : List (Int × Int)) (i : Nat) : (l.map aPos).getD i (.agg [.int .i64 0, .int .i64 0]) = aPos (l.getD i (0, 0)) := getD_map aPos l i (0, 0)

/-- Few lines, none of them long. -/
def small (ls : Ls) : Prop := ls.length ≤ 1099511627776 ∧ ∀ i, (ls.getD i []).length ≤ 1099511627776

theorem place_iff (ls : Ls) (l c : Int) : place ls l c = true ↔ 0 ≤ l ∧ l.toNat < ls.length ∧ 0 ≤ c ∧ c ≤ (ls.getD l.toNat []).length := by
  simp only [place, Bool.and_eq_true, decide_eq_true_eq]
  omega

end Go.Pg
namespace Go.Pg
open Go Go.Proofs

theorem grd1 (x : Bool) (p : Prop) [Decidable p] : (x = false → x = false ∧ (p → (!x && decide p) = true)) = True := by
  cases x <;> simp
def wordB (c : Int) : Bool := (decide (c ≥ 97) && decide (c ≤ 122)) || (decide (c ≥ 65) && decide (c ≤ 90)) || (decide (c ≥ 48) && decide (c ≤ 57)) || c == 95 || decide (c ≥ 128)
def cls (c : Int) (big : Bool) : Int := if (c == 32 || c == 9) = true then 0 else if (big || wordB c) = true then 1 else 2

theorem calls_Of (c : Int) (big : Bool) : CallsR Tryz.prog 74 [.int .u8 c, .bool big] [] (.int .i64 (cls c big)) [] := by
  refine callsR_of (mrg := true) (dyn := []) (CtrOK.nil _) mixed Tryz.func74 rfl (by simp [Tryz.ntmps74]) (by kernel_rfl) ?_
  rw [show Tryz.f74.results.toList = [.tmp 4] from by kernel_rfl]
  simp (maxSteps := 4000000) only [go_sem, reduceCtorEq, Nat.reduceEqDiff]
  unfold cls wordB
  have h : (c ≥ 128 ∧ decide (c ≥ 128) = true ∧ ¬ c < 128) ∨ (¬ c ≥ 128 ∧ decide (c ≥ 128) = false ∧ c < 128) := by
    by_cases h : c ≥ 128
    · exact .inl ⟨h, decide_eq_true h, by omega⟩
    · exact .inr ⟨h, decide_eq_false h, by omega⟩
  generalize (c == 32 || c == 9) = x0
  generalize (decide (c ≥ 97) && decide (c ≤ 122)) = x1
  generalize (decide (c ≥ 65) && decide (c ≤ 90)) = x2
  generalize (decide (c ≥ 48) && decide (c ≤ 57)) = x3
  generalize (c == 95) = x4
  rcases h with ⟨h1, h2, h3⟩ | ⟨h1, h2, h3⟩
  all_goals rw [h2]
  all_goals cases x0 <;> cases big <;> cases x1 <;> cases x2 <;> cases x3 <;> cases x4 <;> simp [h1, h3]
theorem calls_ROf (c : Int) (big : Bool) : CallsR Tryz.prog 101 [.int .u8 c, .bool big] [] (.int .i64 (cls c big)) [] := by
  refine callsR_of (mrg := true) (dyn := []) (CtrOK.nil _) mixed Tryz.func101 rfl (by simp [Tryz.ntmps101]) (by kernel_rfl) ?_
  rw [show Tryz.f101.results.toList = [.tmp 4] from by kernel_rfl]
  simp (maxSteps := 4000000) only [go_sem, reduceCtorEq, Nat.reduceEqDiff, grd1]
  refine ⟨fun h => ?_, fun h => ⟨fun h1 => ?_, fun h1 => ?_⟩⟩
  · rw [cls, if_pos h]
  · have e : (big || wordB c) = true := by rw [← h1]; simp only [wordB, Bool.or_assoc]
    rw [cls, if_neg (by rw [h]; simp), if_pos e]
  · have e : (big || wordB c) = false := by rw [← h1]; simp only [wordB, Bool.or_assoc]
    rw [cls, if_neg (by rw [h]; simp), if_neg (by rw [e]; simp)]

def less (p q : Int × Int) : Bool := decide (p.1 < q.1) || (p.1 == q.1 && decide (p.2 < q.2))
theorem calls_Less (p q : Int × Int) : CallsR Tryz.prog 105 [aPos p, aPos q] [] (.bool (less p q)) [] := by
  refine callsR_of (mrg := true) (dyn := []) (CtrOK.nil _) mixed Tryz.func105 rfl (by simp [Tryz.ntmps105]) (by kernel_rfl) ?_
  rw [show Tryz.f105.results.toList = [.tmp 4] from by kernel_rfl]
  simp (maxSteps := 4000000) only [go_sem, Nat.reduceAdd, reduceCtorEq, Nat.reduceEqDiff, tk3, tk25, dz25, aPos]
  exact ⟨fun h => ⟨h, fun h2 => by rw [h2, decide_eq_false (by omega)]; rfl⟩, rfl⟩
theorem calls_RLess (p q : Int × Int) : CallsR Tryz.prog 92 [aPos p, aPos q] [] (.bool (less p q)) [] := by
  refine callsR_of (mrg := true) (dyn := []) (CtrOK.nil _) mixed Tryz.func92 rfl (by simp [Tryz.ntmps92]) (by kernel_rfl) ?_
  rw [show Tryz.f92.results.toList = [.tmp 4] from by kernel_rfl]
  simp (maxSteps := 4000000) only [go_sem, Nat.reduceAdd, reduceCtorEq, Nat.reduceEqDiff, tk3, tk25, dz25, aPos]
  exact ⟨fun h => ⟨h, fun h2 => by rw [h2, decide_eq_false (by omega)]; rfl⟩, rfl⟩
end Go.Pg
