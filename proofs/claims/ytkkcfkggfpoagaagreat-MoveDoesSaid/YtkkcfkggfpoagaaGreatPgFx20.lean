/- The document's motions by their names: some of them. The document's motions by their names: seeking. -/
import Derived.Test.YtkkcfkggfpoagaaGreatPgBs
import Derived.Test.YtkkcfkggfpoagaaGreatPgFx18
set_option linter.unusedVariables false
set_option linter.unusedSimpArgs false
namespace Go.Pg
open Go Go.Proofs

set_option maxRecDepth 40000 in
set_option maxHeartbeats 40000000 in
theorem calls_do_b (ls : Ls) (x1 x2 x3 x4 : Int) (x5 x6 : UInt8) (x7 : List UInt8) (x8 : Bool) (rg : UInt8) (cn : Int) (opr name : List UInt8) (arg : UInt8) (text : List UInt8) (op : Bool) (n : List UInt8) (ps : List (Int × Int)) (k : Int) (hf : okText ls) (hk : k ≤ 9223372036854775807) (_ : x7.length ≤ 1099511627776)
    (D0 : (decide (cn < 0) = true ∧ k = cn) ∨ (decide (cn < 0) = false ∧ max cn 1 = k))
    (D : (name = [66] ∧ lineA ls (x1, x2, x3, x4, x5, x6, x7, x8) (rg, cn, opr, [66], arg, text) k op = (wBackM ls (x1, x2) k true true true 0, (x1, x2, x3, x4, x5, x6, x7, x8))) ∨ (name = [101] ∧ lineA ls (x1, x2, x3, x4, x5, x6, x7, x8) (rg, cn, opr, [101], arg, text) k op = (rTail ls (x1, x2) k false false, (x1, x2, x3, x4, x5, x6, x7, x8))) ∨ (name = [69] ∧ lineA ls (x1, x2, x3, x4, x5, x6, x7, x8) (rg, cn, opr, [69], arg, text) k op = (rTail ls (x1, x2) k true false, (x1, x2, x3, x4, x5, x6, x7, x8))) ∨ (name = [103, 101] ∧ lineA ls (x1, x2, x3, x4, x5, x6, x7, x8) (rg, cn, opr, [103, 101], arg, text) k op = (wBackM ls (x1, x2) k false false false 1, (x1, x2, x3, x4, x5, x6, x7, x8))) ∨ (name = [103, 69] ∧ lineA ls (x1, x2, x3, x4, x5, x6, x7, x8) (rg, cn, opr, [103, 69], arg, text) k op = (wBackM ls (x1, x2) k false false true 1, (x1, x2, x3, x4, x5, x6, x7, x8))) ∨ (name = [106] ∧ lineA ls (x1, x2, x3, x4, x5, x6, x7, x8) (rg, cn, opr, [106], arg, text) k op = (vertP ls (x1, x2) k x3 false, (x1, x2, x3, x4, x5, x6, x7, x8))) ∨ (name = [107] ∧ lineA ls (x1, x2, x3, x4, x5, x6, x7, x8) (rg, cn, opr, [107], arg, text) k op = (vertP ls (x1, x2) k x3 true, (x1, x2, x3, x4, x5, x6, x7, x8))) ∨ (name = [43] ∧ lineA ls (x1, x2, x3, x4, x5, x6, x7, x8) (rg, cn, opr, [43], arg, text) k op = (plusP ls (x1, x2) k, (x1, x2, x3, x4, x5, x6, x7, x8))) ∨ (name = [45] ∧ lineA ls (x1, x2, x3, x4, x5, x6, x7, x8) (rg, cn, opr, [45], arg, text) k op = (minusP ls (x1, x2) k, (x1, x2, x3, x4, x5, x6, x7, x8))) ∨ (name = [95] ∧ lineA ls (x1, x2, x3, x4, x5, x6, x7, x8) (rg, cn, opr, [95], arg, text) k op = (underP ls (x1, x2) k, (x1, x2, x3, x4, x5, x6, x7, x8)))) :
    CallsR Tryz.prog 26 [.sl 1 (ls.map .str), .ptr 0 8 1 0 0, .agg (aCm (rg, cn, opr, name, arg, text)), .bool op, .ptr 1 2 1 0 0] (cxR (x1, x2, x3, x4, x5, x6, x7, x8) n ps)
      (aMove (lineA ls (x1, x2, x3, x4, x5, x6, x7, x8) (rg, cn, opr, name, arg, text) k op).1) (cxR (lineA ls (x1, x2, x3, x4, x5, x6, x7, x8) (rg, cn, opr, name, arg, text) k op).2 n ps) := by
  refine callsR_of (mrg := true) (dyn := [1, 21, 84]) (CtrOK.cons ok_RLeft (CtrOK.cons ok_RRight (CtrOK.cons ok_RZero (CtrOK.cons ok_RFirstOf (CtrOK.cons ok_RLast (CtrOK.cons ok_RColumn (CtrOK.cons ok_RSeek (CtrOK.cons ok_opposite (CtrOK.cons ok_RNext (CtrOK.cons ok_RBack (CtrOK.cons ok_RTail (CtrOK.cons ok_RBackTail (CtrOK.cons ok_RVertical (CtrOK.cons ok_RPlus (CtrOK.cons ok_RMinus (CtrOK.cons ok_RUnder (CtrOK.cons ok_RGoto (CtrOK.cons ok_RScreen (CtrOK.cons ok_RParaNext (CtrOK.cons ok_RParaBack (CtrOK.cons ok_RSentNext (CtrOK.cons ok_RSentBack (CtrOK.cons ok_RMatch (CtrOK.cons ok_RSearch (CtrOK.cons ok_RWord (CtrOK.cons ok_Get13 (CtrOK.cons ok_RClampD (CtrOK.cons ok_RFirst (CtrOK.nil _))))))))))))))))))))))))))))) mixed Tryz.func26 rfl (by simp [Tryz.ntmps26]) (by kernel_rfl) ?_
  rw [show Tryz.f26.results.toList = [.cell 10 49, .tmp 11] from by kernel_rfl]
  rcases D with ⟨rfl, hL⟩ | ⟨rfl, hL⟩ | ⟨rfl, hL⟩ | ⟨rfl, hL⟩ | ⟨rfl, hL⟩ | ⟨rfl, hL⟩ | ⟨rfl, hL⟩ | ⟨rfl, hL⟩ | ⟨rfl, hL⟩ | ⟨rfl, hL⟩
  all_goals
    rw [hL]
    try simp only []
    have D1 : (decide (cn < 0) = true ∧ k = cn ∧ decide (cn < 0) = true) ∨ (decide (cn < 0) = false ∧ k = k ∧ max cn 1 = k) := by
      rcases D0 with ⟨a, b⟩ | ⟨a, b⟩
      · exact .inl ⟨a, b, a⟩
      · exact .inr ⟨a, rfl, b⟩
    clear D0
    rcases D1 with ⟨c1, c2, c3⟩ | ⟨c1, c2, c3⟩
    all_goals try subst c2
    all_goals
      simp (maxSteps := 4000000) only [go_sem, Nat.reduceAdd, reduceCtorEq, Nat.reduceEqDiff, Nat.reduceLT, Nat.reduceBEq, Nat.reduceLeDiff, tk3, tk9, tk25, tz25, dz25, tk29, dz29, tk44, dz44, tk49, tz49, dz49, kMvN, kMvNB, kMv0, kSeek, kOpposite, kNext, kBackS, kTail, kBackE, kRVert, kRScreen, kRSearch, kWord, kGet13, kClampD, kFirst, aPos, aMove, aMv, byteA, UInt8.reduceToNat, cons_beq8, cons_nil8, nil_cons8, c1, c3, pureB_aPs]
      (repeat' first | exact hf | exact hk | exact h7 | exact ⟨hf, hk⟩ | (show dynOrd _ _ = true; kernel_rfl) | exact subX_eq rfl rfl | exact subX_eq rfl (pureB_bytes _) | exact subX_eq rfl (pureB_aPs _) | exact trivial | apply And.intro | rfl | omega | apply subX_one)
      all_goals try simp (maxSteps := 4000000) only [go_sem, Nat.reduceAdd, reduceIte, reduceCtorEq, Nat.reduceEqDiff, Nat.reduceLT, Nat.reduceSub, Nat.reduceMul, Int.reduceToNat, Int.reduceLE, Int.reduceLT, UInt8.reduceOfNat, Nat.reduceBEq, Int.reduceBEq, Int.reduceBNe, Nat.reduceBNe, Nat.reducePow, Nat.reduceLeDiff, tk3, tz3, dz3, eb3, eq3, tk4, tz4, dz4, eb4, eq4, tk5, tz5, dz5, eb5, eq5, tk9, tz9, dz9, eb9, eq9, tk22, tz22, dz22, eb22, tk25, tz25, dz25, eb25, eq25, tk29, tz29, dz29, eb29, eq29, tk36, tz36, dz36, pt36, tk44, tz44, dz44, eb44, eq44, tk49, tz49, dz49, eb49, eq49]
end Go.Pg
namespace Go.Pg
open Go Go.Proofs

set_option maxRecDepth 40000 in
set_option maxHeartbeats 40000000 in
theorem calls_do_seek (ls : Ls) (x1 x2 x3 x4 : Int) (x5 x6 : UInt8) (x7 : List UInt8) (x8 : Bool) (rg : UInt8) (cn : Int) (opr name : List UInt8) (arg : UInt8) (text : List UInt8) (op : Bool) (n : List UInt8) (ps : List (Int × Int)) (k : Int) (hf : okText ls) (hk : k ≤ 9223372036854775807) (_ : x7.length ≤ 1099511627776) (_ : text.length ≤ 1099511627776) (D0 : (decide (cn < 0) = true ∧ k = cn) ∨ (decide (cn < 0) = false ∧ max cn 1 = k)) (key : UInt8) (hh : True) (_ : True)
    (D : (name = [102] ∧ key = 102) ∨ (name = [70] ∧ key = 70) ∨ (name = [116] ∧ key = 116) ∨ (name = [84] ∧ key = 84)) : CallsR Tryz.prog 26 [.sl 1 (ls.map .str), .ptr 0 8 1 0 0, .agg (aCm (rg, cn, opr, name, arg, text)), .bool op, .ptr 1 2 1 0 0] (cxR (x1, x2, x3, x4, x5, x6, x7, x8) n ps) (aMove (seekP ls (x1, x2) key arg k)) (cxR (x1, x2, x3, x4, key, arg, x7, x8) n ps) := by
  refine callsR_of (mrg := true) (dyn := [1, 21, 84]) (CtrOK.cons ok_RLeft (CtrOK.cons ok_RRight (CtrOK.cons ok_RZero (CtrOK.cons ok_RFirstOf (CtrOK.cons ok_RLast (CtrOK.cons ok_RColumn (CtrOK.cons ok_RSeek (CtrOK.cons ok_opposite (CtrOK.cons ok_RNext (CtrOK.cons ok_RBack (CtrOK.cons ok_RTail (CtrOK.cons ok_RBackTail (CtrOK.cons ok_RVertical (CtrOK.cons ok_RPlus (CtrOK.cons ok_RMinus (CtrOK.cons ok_RUnder (CtrOK.cons ok_RGoto (CtrOK.cons ok_RScreen (CtrOK.cons ok_RParaNext (CtrOK.cons ok_RParaBack (CtrOK.cons ok_RSentNext (CtrOK.cons ok_RSentBack (CtrOK.cons ok_RMatch (CtrOK.cons ok_RSearch (CtrOK.cons ok_RWord (CtrOK.cons ok_Get13 (CtrOK.cons ok_RClampD (CtrOK.cons ok_RFirst (CtrOK.nil _))))))))))))))))))))))))))))) mixed Tryz.func26 rfl (by simp [Tryz.ntmps26]) (by kernel_rfl) ?_
  rw [show Tryz.f26.results.toList = [.cell 10 49, .tmp 11] from by kernel_rfl]
  rcases D with ⟨rfl, rfl⟩ | ⟨rfl, rfl⟩ | ⟨rfl, rfl⟩ | ⟨rfl, rfl⟩
  all_goals
    have D1 : (decide (cn < 0) = true ∧ k = cn ∧ decide (cn < 0) = true) ∨ (decide (cn < 0) = false ∧ k = k ∧ max cn 1 = k) := by
      rcases D0 with ⟨a, b⟩ | ⟨a, b⟩
      · exact .inl ⟨a, b, a⟩
      · exact .inr ⟨a, rfl, b⟩
    rcases D1 with ⟨c1, c2, c3⟩ | ⟨c1, c2, c3⟩
    all_goals try subst c2
    all_goals
      simp (maxSteps := 4000000) only [go_sem, Nat.reduceAdd, reduceCtorEq, Nat.reduceEqDiff, Nat.reduceLT, Int.reduceToNat, Int.reduceLE, Int.reduceLT, UInt8.reduceOfNat, Nat.reduceBEq, Nat.reduceLeDiff, tk3, tk5, tk9, tk25, tz25, dz25, tk29, dz29, tk44, dz44, tk49, tz49, dz49, kMvN, kMvNB, kMv0, kSeek, kOpposite, kNext, kBackS, kTail, kBackE, kRVert, kRScreen, kRSearch, kWord, kGet13, kClampD, kFirst, aPos, aMove, aMv, byteA, UInt8.reduceToNat, cons_beq8, c3, c1, pureB_aPs]
      (repeat' first | exact hf | exact hk | exact h7 | exact ht | exact hh | exact hs | exact ⟨hf, hk⟩ | exact ⟨hf, h7⟩ | exact ⟨hf, ht⟩ | (show dynOrd _ _ = true; kernel_rfl) | exact subX_eq rfl rfl | exact subX_eq rfl (pureB_bytes _) | exact subX_eq rfl (pureB_aPs _) | exact trivial | apply And.intro | rfl | omega | apply subX_one)
      all_goals try simp (maxSteps := 4000000) only [go_sem, Nat.reduceAdd, reduceIte, reduceCtorEq, Nat.reduceEqDiff, Nat.reduceLT, Nat.reduceSub, Nat.reduceMul, Int.reduceToNat, Int.reduceLE, Int.reduceLT, UInt8.reduceOfNat, Nat.reduceBEq, Int.reduceBEq, Int.reduceBNe, Nat.reduceBNe, Nat.reducePow, Nat.reduceLeDiff, tk3, tz3, dz3, eb3, eq3, tk4, tz4, dz4, eb4, eq4, tk5, tz5, dz5, eb5, eq5, tk9, tz9, dz9, eb9, eq9, tk22, tz22, dz22, eb22, tk25, tz25, dz25, eb25, eq25, tk29, tz29, dz29, eb29, eq29, tk36, tz36, dz36, pt36, tk44, tz44, dz44, eb44, eq44, tk49, tz49, dz49, eb49, eq49]
set_option maxRecDepth 40000 in
set_option maxHeartbeats 40000000 in
theorem calls_do_comma (ls : Ls) (x1 x2 x3 x4 : Int) (x5 x6 : UInt8) (x7 : List UInt8) (x8 : Bool) (rg : UInt8) (cn : Int) (opr name : List UInt8) (arg : UInt8) (text : List UInt8) (op : Bool) (n : List UInt8) (ps : List (Int × Int)) (k : Int) (hf : okText ls) (hk : k ≤ 9223372036854775807) (_ : x7.length ≤ 1099511627776) (_ : text.length ≤ 1099511627776) (D0 : (decide (cn < 0) = true ∧ k = cn) ∨ (decide (cn < 0) = false ∧ max cn 1 = k)) (hh : True) (_ : True) (hn : name = [44]) : CallsR Tryz.prog 26 [.sl 1 (ls.map .str), .ptr 0 8 1 0 0, .agg (aCm (rg, cn, opr, name, arg, text)), .bool op, .ptr 1 2 1 0 0] (cxR (x1, x2, x3, x4, x5, x6, x7, x8) n ps) (aMove (if x5 = 0 then mNone else seekP ls (x1, x2) (otherK x5) x6 k)) (cxR (x1, x2, x3, x4, x5, x6, x7, x8) n ps) := by
  refine callsR_of (mrg := true) (dyn := [1, 21, 84]) (CtrOK.cons ok_RLeft (CtrOK.cons ok_RRight (CtrOK.cons ok_RZero (CtrOK.cons ok_RFirstOf (CtrOK.cons ok_RLast (CtrOK.cons ok_RColumn (CtrOK.cons ok_RSeek (CtrOK.cons ok_opposite (CtrOK.cons ok_RNext (CtrOK.cons ok_RBack (CtrOK.cons ok_RTail (CtrOK.cons ok_RBackTail (CtrOK.cons ok_RVertical (CtrOK.cons ok_RPlus (CtrOK.cons ok_RMinus (CtrOK.cons ok_RUnder (CtrOK.cons ok_RGoto (CtrOK.cons ok_RScreen (CtrOK.cons ok_RParaNext (CtrOK.cons ok_RParaBack (CtrOK.cons ok_RSentNext (CtrOK.cons ok_RSentBack (CtrOK.cons ok_RMatch (CtrOK.cons ok_RSearch (CtrOK.cons ok_RWord (CtrOK.cons ok_Get13 (CtrOK.cons ok_RClampD (CtrOK.cons ok_RFirst (CtrOK.nil _))))))))))))))))))))))))))))) mixed Tryz.func26 rfl (by simp [Tryz.ntmps26]) (by kernel_rfl) ?_
  rw [show Tryz.f26.results.toList = [.cell 10 49, .tmp 11] from by kernel_rfl]
  subst hn
  have D2 : (((x5.toNat : Int) == 0) = true ∧ x5 = 0) ∨ (((x5.toNat : Int) == 0) = false ∧ ¬ x5 = 0) := by
    by_cases h : x5 = 0
    · exact .inl ⟨byte_lit0 x5 0 0 rfl h, h⟩
    · exact .inr ⟨byte_lit x5 0 0 rfl h, h⟩
  rcases D2 with ⟨b0, b1⟩ | ⟨b0, b1⟩
  · rw [if_pos b1]
    have D1 : (decide (cn < 0) = true ∧ k = cn ∧ decide (cn < 0) = true) ∨ (decide (cn < 0) = false ∧ k = k ∧ max cn 1 = k) := by
      rcases D0 with ⟨a, b⟩ | ⟨a, b⟩
      · exact .inl ⟨a, b, a⟩
      · exact .inr ⟨a, rfl, b⟩
    rcases D1 with ⟨c1, c2, c3⟩ | ⟨c1, c2, c3⟩
    all_goals try subst c2
    all_goals
      simp (maxSteps := 4000000) only [go_sem, Nat.reduceAdd, reduceCtorEq, Nat.reduceEqDiff, Nat.reduceLT, Nat.reduceBEq, Nat.reduceLeDiff, tk3, tk5, tk9, tk25, tz25, dz25, tk29, dz29, tk44, dz44, tk49, tz49, dz49, kMvN, kMvNB, kMv0, kSeek, kOpposite, kNext, kBackS, kTail, kBackE, kRVert, kRScreen, kRSearch, kWord, kGet13, kClampD, kFirst, aPos, aMove, aMv, mNone, byteA, UInt8.reduceToNat, cons_beq8, c1, c3, b0, pureB_aPs]
      (repeat' first | exact hf | exact hk | exact h7 | exact ht | exact hh | exact hs | exact ⟨hf, hk⟩ | exact ⟨hf, h7⟩ | exact ⟨hf, ht⟩ | (show dynOrd _ _ = true; kernel_rfl) | exact subX_eq rfl rfl | exact subX_eq rfl (pureB_bytes _) | exact subX_eq rfl (pureB_aPs _) | exact trivial | apply And.intro | rfl | omega | apply subX_one)
      all_goals try simp (maxSteps := 4000000) only [go_sem, Nat.reduceAdd, reduceIte, reduceCtorEq, Nat.reduceEqDiff, Nat.reduceLT, Nat.reduceSub, Nat.reduceMul, Int.reduceToNat, Int.reduceLE, Int.reduceLT, UInt8.reduceOfNat, Nat.reduceBEq, Int.reduceBEq, Int.reduceBNe, Nat.reduceBNe, Nat.reducePow, Nat.reduceLeDiff, tk3, tz3, dz3, eb3, eq3, tk4, tz4, dz4, eb4, eq4, tk5, tz5, dz5, eb5, eq5, tk9, tz9, dz9, eb9, eq9, tk22, tz22, dz22, eb22, tk25, tz25, dz25, eb25, eq25, tk29, tz29, dz29, eb29, eq29, tk36, tz36, dz36, pt36, tk44, tz44, dz44, eb44, eq44, tk49, tz49, dz49, eb49, eq49]
  · rw [if_neg b1]
    have D1 : (decide (cn < 0) = true ∧ k = cn ∧ decide (cn < 0) = true) ∨ (decide (cn < 0) = false ∧ k = k ∧ max cn 1 = k) := by
      rcases D0 with ⟨a, b⟩ | ⟨a, b⟩
      · exact .inl ⟨a, b, a⟩
      · exact .inr ⟨a, rfl, b⟩
    rcases D1 with ⟨c1, c2, c3⟩ | ⟨c1, c2, c3⟩
    all_goals try subst c2
    all_goals
      simp (maxSteps := 4000000) only [go_sem, Nat.reduceAdd, reduceCtorEq, Nat.reduceEqDiff, Nat.reduceLT, Nat.reduceBEq, Nat.reduceLeDiff, tk3, tk5, tk9, tk25, tz25, dz25, tk29, dz29, tk44, dz44, tk49, tz49, dz49, kMvN, kMvNB, kMv0, kSeek, kOpposite, kNext, kBackS, kTail, kBackE, kRVert, kRScreen, kRSearch, kWord, kGet13, kClampD, kFirst, aPos, aMove, aMv, byteA, UInt8.reduceToNat, cons_beq8, c1, c3, b0, pureB_aPs]
      (repeat' first | exact hf | exact hk | exact h7 | exact ht | exact hh | exact hs | exact ⟨hf, hk⟩ | exact ⟨hf, h7⟩ | exact ⟨hf, ht⟩ | (show dynOrd _ _ = true; kernel_rfl) | exact subX_eq rfl rfl | exact subX_eq rfl (pureB_bytes _) | exact subX_eq rfl (pureB_aPs _) | exact trivial | apply And.intro | rfl | omega | apply subX_one)
      all_goals try simp (maxSteps := 4000000) only [go_sem, Nat.reduceAdd, reduceIte, reduceCtorEq, Nat.reduceEqDiff, Nat.reduceLT, Nat.reduceSub, Nat.reduceMul, Int.reduceToNat, Int.reduceLE, Int.reduceLT, UInt8.reduceOfNat, Nat.reduceBEq, Int.reduceBEq, Int.reduceBNe, Nat.reduceBNe, Nat.reducePow, Nat.reduceLeDiff, tk3, tz3, dz3, eb3, eq3, tk4, tz4, dz4, eb4, eq4, tk5, tz5, dz5, eb5, eq5, tk9, tz9, dz9, eb9, eq9, tk22, tz22, dz22, eb22, tk25, tz25, dz25, eb25, eq25, tk29, tz29, dz29, eb29, eq29, tk36, tz36, dz36, pt36, tk44, tz44, dz44, eb44, eq44, tk49, tz49, dz49, eb49, eq49]
set_option maxRecDepth 40000 in
set_option maxHeartbeats 40000000 in
theorem calls_do_G (ls : Ls) (x1 x2 x3 x4 : Int) (x5 x6 : UInt8) (x7 : List UInt8) (x8 : Bool) (rg : UInt8) (cn : Int) (opr name : List UInt8) (arg : UInt8) (text : List UInt8) (op : Bool) (n : List UInt8) (ps : List (Int × Int)) (k : Int) (hf : okText ls) (hk : k ≤ 9223372036854775807) (_ : x7.length ≤ 1099511627776) (_ : text.length ≤ 1099511627776) (D0 : (decide (cn < 0) = true ∧ k = cn) ∨ (decide (cn < 0) = false ∧ max cn 1 = k)) (hh : True) (_ : True) (hn : name = [71]) : CallsR Tryz.prog 26 [.sl 1 (ls.map .str), .ptr 0 8 1 0 0, .agg (aCm (rg, cn, opr, name, arg, text)), .bool op, .ptr 1 2 1 0 0] (cxR (x1, x2, x3, x4, x5, x6, x7, x8) n ps) (aMove (gotoP ls (x1, x2) (if cn = 0 then (ls.length : Int) else k))) (cxR (x1, x2, x3, x4, x5, x6, x7, x8) n ps) := by
  refine callsR_of (mrg := true) (dyn := [1, 21, 84]) (CtrOK.cons ok_RLeft (CtrOK.cons ok_RRight (CtrOK.cons ok_RZero (CtrOK.cons ok_RFirstOf (CtrOK.cons ok_RLast (CtrOK.cons ok_RColumn (CtrOK.cons ok_RSeek (CtrOK.cons ok_opposite (CtrOK.cons ok_RNext (CtrOK.cons ok_RBack (CtrOK.cons ok_RTail (CtrOK.cons ok_RBackTail (CtrOK.cons ok_RVertical (CtrOK.cons ok_RPlus (CtrOK.cons ok_RMinus (CtrOK.cons ok_RUnder (CtrOK.cons ok_RGoto (CtrOK.cons ok_RScreen (CtrOK.cons ok_RParaNext (CtrOK.cons ok_RParaBack (CtrOK.cons ok_RSentNext (CtrOK.cons ok_RSentBack (CtrOK.cons ok_RMatch (CtrOK.cons ok_RSearch (CtrOK.cons ok_RWord (CtrOK.cons ok_Get13 (CtrOK.cons ok_RClampD (CtrOK.cons ok_RFirst (CtrOK.nil _))))))))))))))))))))))))))))) mixed Tryz.func26 rfl (by simp [Tryz.ntmps26]) (by kernel_rfl) ?_
  rw [show Tryz.f26.results.toList = [.cell 10 49, .tmp 11] from by kernel_rfl]
  subst hn
  have hl := hf.1
  have D2 : ((cn == 0) = true ∧ cn = 0) ∨ ((cn == 0) = false ∧ ¬ cn = 0) := by
    by_cases h : cn = 0
    · exact .inl ⟨beq_iff_eq.2 h, h⟩
    · exact .inr ⟨beq_eq_false_iff_ne.2 h, h⟩
  rcases D2 with ⟨b0, b1⟩ | ⟨b0, b1⟩
  · rw [if_pos b1]
    have D1 : (decide (cn < 0) = true ∧ k = cn ∧ decide (cn < 0) = true) ∨ (decide (cn < 0) = false ∧ k = k ∧ max cn 1 = k) := by
      rcases D0 with ⟨a, b⟩ | ⟨a, b⟩
      · exact .inl ⟨a, b, a⟩
      · exact .inr ⟨a, rfl, b⟩
    rcases D1 with ⟨c1, c2, c3⟩ | ⟨c1, c2, c3⟩
    all_goals try subst c2
    all_goals
      simp (maxSteps := 4000000) only [go_sem, Nat.reduceAdd, reduceCtorEq, Nat.reduceEqDiff, Nat.reduceLT, Nat.reduceBEq, Nat.reduceLeDiff, tk3, tk9, tk22, tk25, tz25, dz25, tk29, dz29, tk44, dz44, tk49, tz49, dz49, kMvN, kMvNB, kMv0, kSeek, kOpposite, kNext, kBackS, kTail, kBackE, kRVert, kRScreen, kRSearch, kWord, kGet13, kClampD, kFirst, aPos, aMove, aMv, byteA, UInt8.reduceToNat, cons_beq8, nil_cons8, c1, c3, b0, pureB_aPs]
      (repeat' first | exact hf | exact hk | exact h7 | exact ht | exact hh | exact hs | exact ⟨hf, hk⟩ | exact ⟨hf, h7⟩ | exact ⟨hf, ht⟩ | (show dynOrd _ _ = true; kernel_rfl) | exact subX_eq rfl rfl | exact subX_eq rfl (pureB_bytes _) | exact subX_eq rfl (pureB_aPs _) | exact trivial | apply And.intro | rfl | omega | apply subX_one)
      all_goals try simp (maxSteps := 4000000) only [go_sem, Nat.reduceAdd, reduceIte, reduceCtorEq, Nat.reduceEqDiff, Nat.reduceLT, Nat.reduceSub, Nat.reduceMul, Int.reduceToNat, Int.reduceLE, Int.reduceLT, UInt8.reduceOfNat, Nat.reduceBEq, Int.reduceBEq, Int.reduceBNe, Nat.reduceBNe, Nat.reducePow, Nat.reduceLeDiff, tk3, tz3, dz3, eb3, eq3, tk4, tz4, dz4, eb4, eq4, tk5, tz5, dz5, eb5, eq5, tk9, tz9, dz9, eb9, eq9, tk22, tz22, dz22, eb22, tk25, tz25, dz25, eb25, eq25, tk29, tz29, dz29, eb29, eq29, tk36, tz36, dz36, pt36, tk44, tz44, dz44, eb44, eq44, tk49, tz49, dz49, eb49, eq49]
  · rw [if_neg b1]
    have D1 : (decide (cn < 0) = true ∧ k = cn ∧ decide (cn < 0) = true) ∨ (decide (cn < 0) = false ∧ k = k ∧ max cn 1 = k) := by
      rcases D0 with ⟨a, b⟩ | ⟨a, b⟩
      · exact .inl ⟨a, b, a⟩
      · exact .inr ⟨a, rfl, b⟩
    rcases D1 with ⟨c1, c2, c3⟩ | ⟨c1, c2, c3⟩
    all_goals try subst c2
    all_goals
      simp (maxSteps := 4000000) only [go_sem, Nat.reduceAdd, reduceCtorEq, Nat.reduceEqDiff, Nat.reduceLT, Nat.reduceBEq, Nat.reduceLeDiff, tk3, tk9, tk25, tz25, dz25, tk29, dz29, tk44, dz44, tk49, tz49, dz49, kMvN, kMvNB, kMv0, kSeek, kOpposite, kNext, kBackS, kTail, kBackE, kRVert, kRScreen, kRSearch, kWord, kGet13, kClampD, kFirst, aPos, aMove, aMv, byteA, UInt8.reduceToNat, cons_beq8, nil_cons8, c1, c3, b0, pureB_aPs]
      (repeat' first | exact hf | exact hk | exact h7 | exact ht | exact hh | exact hs | exact ⟨hf, hk⟩ | exact ⟨hf, h7⟩ | exact ⟨hf, ht⟩ | (show dynOrd _ _ = true; kernel_rfl) | exact subX_eq rfl rfl | exact subX_eq rfl (pureB_bytes _) | exact subX_eq rfl (pureB_aPs _) | exact trivial | apply And.intro | rfl | omega | apply subX_one)
      all_goals try simp (maxSteps := 4000000) only [go_sem, Nat.reduceAdd, reduceIte, reduceCtorEq, Nat.reduceEqDiff, Nat.reduceLT, Nat.reduceSub, Nat.reduceMul, Int.reduceToNat, Int.reduceLE, Int.reduceLT, UInt8.reduceOfNat, Nat.reduceBEq, Int.reduceBEq, Int.reduceBNe, Nat.reduceBNe, Nat.reducePow, Nat.reduceLeDiff, tk3, tz3, dz3, eb3, eq3, tk4, tz4, dz4, eb4, eq4, tk5, tz5, dz5, eb5, eq5, tk9, tz9, dz9, eb9, eq9, tk22, tz22, dz22, eb22, tk25, tz25, dz25, eb25, eq25, tk29, tz29, dz29, eb29, eq29, tk36, tz36, dz36, pt36, tk44, tz44, dz44, eb44, eq44, tk49, tz49, dz49, eb49, eq49]
end Go.Pg
