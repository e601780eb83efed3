/- The document's motions by their names: some of them. The document's motions by their names: searching. -/
import Derived.Test.YtkkcfkggfpoagaaGreatPgBs
import Derived.Test.YtkkcfkggfpoagaaGreatPgFx18
set_option linter.unusedVariables false
set_option linter.unusedSimpArgs false
namespace Go.Pg
open Go Go.Proofs

set_option maxRecDepth 40000 in
set_option maxHeartbeats 40000000 in
theorem calls_do_a (ls : Ls) (x1 x2 x3 x4 : Int) (x5 x6 : UInt8) (x7 : List UInt8) (x8 : Bool) (rg : UInt8) (cn : Int) (opr name : List UInt8) (arg : UInt8) (text : List UInt8) (op : Bool) (n : List UInt8) (ps : List (Int × Int)) (k : Int) (hf : okText ls) (hk : k ≤ 9223372036854775807) (_ : x7.length ≤ 1099511627776)
    (D0 : (decide (cn < 0) = true ∧ k = cn) ∨ (decide (cn < 0) = false ∧ max cn 1 = k))
    (D : (name = [104] ∧ lineA ls (x1, x2, x3, x4, x5, x6, x7, x8) (rg, cn, opr, [104], arg, text) k op = (leftP ls (x1, x2) k, (x1, x2, x3, x4, x5, x6, x7, x8))) ∨ (name = [108] ∧ lineA ls (x1, x2, x3, x4, x5, x6, x7, x8) (rg, cn, opr, [108], arg, text) k op = (rightP ls (x1, x2) k op, (x1, x2, x3, x4, x5, x6, x7, x8))) ∨ (name = [48] ∧ lineA ls (x1, x2, x3, x4, x5, x6, x7, x8) (rg, cn, opr, [48], arg, text) k op = (zeroP ls (x1, x2), (x1, x2, x3, x4, x5, x6, x7, x8))) ∨ (name = [94] ∧ lineA ls (x1, x2, x3, x4, x5, x6, x7, x8) (rg, cn, opr, [94], arg, text) k op = (firstP ls (x1, x2), (x1, x2, x3, x4, x5, x6, x7, x8))) ∨ (name = [36] ∧ lineA ls (x1, x2, x3, x4, x5, x6, x7, x8) (rg, cn, opr, [36], arg, text) k op = (lastP ls (x1, x2) k, (x1, x2, x3, x4, x5, x6, x7, x8))) ∨ (name = [124] ∧ lineA ls (x1, x2, x3, x4, x5, x6, x7, x8) (rg, cn, opr, [124], arg, text) k op = (colP ls (x1, x2) k, (x1, x2, x3, x4, x5, x6, x7, x8))) ∨ (name = [59] ∧ lineA ls (x1, x2, x3, x4, x5, x6, x7, x8) (rg, cn, opr, [59], arg, text) k op = (seekP ls (x1, x2) x5 x6 k, (x1, x2, x3, x4, x5, x6, x7, x8))) ∨ (name = [119] ∧ lineA ls (x1, x2, x3, x4, x5, x6, x7, x8) (rg, cn, opr, [119], arg, text) k op = (wNext ls (x1, x2) k false op, (x1, x2, x3, x4, x5, x6, x7, x8))) ∨ (name = [87] ∧ lineA ls (x1, x2, x3, x4, x5, x6, x7, x8) (rg, cn, opr, [87], arg, text) k op = (wNext ls (x1, x2) k true op, (x1, x2, x3, x4, x5, x6, x7, x8))) ∨ (name = [98] ∧ lineA ls (x1, x2, x3, x4, x5, x6, x7, x8) (rg, cn, opr, [98], arg, text) k op = (wBackM ls (x1, x2) k true true false 0, (x1, x2, x3, x4, x5, x6, x7, x8)))) :
    CallsR Tryz.prog 26 [.sl 1 (ls.map .str), .ptr 0 8 1 0 0, .agg (aCm (rg, cn, opr, name, arg, text)), .bool op, .ptr 1 2 1 0 0] (cxR (x1, x2, x3, x4, x5, x6, x7, x8) n ps)
      (aMove (lineA ls (x1, x2, x3, x4, x5, x6, x7, x8) (rg, cn, opr, name, arg, text) k op).1) (cxR (lineA ls (x1, x2, x3, x4, x5, x6, x7, x8) (rg, cn, opr, name, arg, text) k op).2 n ps) := by
  refine callsR_of (mrg := true) (dyn := [1, 21, 84]) (CtrOK.cons ok_RLeft (CtrOK.cons ok_RRight (CtrOK.cons ok_RZero (CtrOK.cons ok_RFirstOf (CtrOK.cons ok_RLast (CtrOK.cons ok_RColumn (CtrOK.cons ok_RSeek (CtrOK.cons ok_opposite (CtrOK.cons ok_RNext (CtrOK.cons ok_RBack (CtrOK.cons ok_RTail (CtrOK.cons ok_RBackTail (CtrOK.cons ok_RVertical (CtrOK.cons ok_RPlus (CtrOK.cons ok_RMinus (CtrOK.cons ok_RUnder (CtrOK.cons ok_RGoto (CtrOK.cons ok_RScreen (CtrOK.cons ok_RParaNext (CtrOK.cons ok_RParaBack (CtrOK.cons ok_RSentNext (CtrOK.cons ok_RSentBack (CtrOK.cons ok_RMatch (CtrOK.cons ok_RSearch (CtrOK.cons ok_RWord (CtrOK.cons ok_Get13 (CtrOK.cons ok_RClampD (CtrOK.cons ok_RFirst (CtrOK.nil _))))))))))))))))))))))))))))) mixed Tryz.func26 rfl (by simp [Tryz.ntmps26]) (by kernel_rfl) ?_
  rw [show Tryz.f26.results.toList = [.cell 10 49, .tmp 11] from by kernel_rfl]
  rcases D with ⟨rfl, hL⟩ | ⟨rfl, hL⟩ | ⟨rfl, hL⟩ | ⟨rfl, hL⟩ | ⟨rfl, hL⟩ | ⟨rfl, hL⟩ | ⟨rfl, hL⟩ | ⟨rfl, hL⟩ | ⟨rfl, hL⟩ | ⟨rfl, hL⟩
  all_goals
    rw [hL]
    try simp only []
    have D1 : (decide (cn < 0) = true ∧ k = cn ∧ decide (cn < 0) = true) ∨ (decide (cn < 0) = false ∧ k = k ∧ max cn 1 = k) := by
      rcases D0 with ⟨a, b⟩ | ⟨a, b⟩
      · exact .inl ⟨a, b, a⟩
      · exact .inr ⟨a, rfl, b⟩
    clear D0
    rcases D1 with ⟨c1, c2, c3⟩ | ⟨c1, c2, c3⟩
    all_goals try subst c2
    all_goals
      simp (maxSteps := 4000000) only [go_sem, Nat.reduceAdd, reduceCtorEq, Nat.reduceEqDiff, Nat.reduceLT, Nat.reduceBEq, Nat.reduceLeDiff, tk3, tk5, tk9, tk25, tz25, dz25, tk29, dz29, tk44, dz44, tk49, tz49, dz49, kMvN, kMvNB, kMv0, kSeek, kOpposite, kNext, kBackS, kTail, kBackE, kRVert, kRScreen, kRSearch, kWord, kGet13, kClampD, kFirst, aPos, aMove, aMv, byteA, UInt8.reduceToNat, cons_beq8, c1, c3, pureB_aPs]
      (repeat' first | exact hf | exact hk | exact h7 | exact ⟨hf, hk⟩ | (show dynOrd _ _ = true; kernel_rfl) | exact subX_eq rfl rfl | exact subX_eq rfl (pureB_bytes _) | exact subX_eq rfl (pureB_aPs _) | exact trivial | apply And.intro | rfl | omega | apply subX_one)
      all_goals try simp (maxSteps := 4000000) only [go_sem, Nat.reduceAdd, reduceIte, reduceCtorEq, Nat.reduceEqDiff, Nat.reduceLT, Nat.reduceSub, Nat.reduceMul, Int.reduceToNat, Int.reduceLE, Int.reduceLT, UInt8.reduceOfNat, Nat.reduceBEq, Int.reduceBEq, Int.reduceBNe, Nat.reduceBNe, Nat.reducePow, Nat.reduceLeDiff, tk3, tz3, dz3, eb3, eq3, tk4, tz4, dz4, eb4, eq4, tk5, tz5, dz5, eb5, eq5, tk9, tz9, dz9, eb9, eq9, tk22, tz22, dz22, eb22, tk25, tz25, dz25, eb25, eq25, tk29, tz29, dz29, eb29, eq29, tk36, tz36, dz36, pt36, tk44, tz44, dz44, eb44, eq44, tk49, tz49, dz49, eb49, eq49]
end Go.Pg
namespace Go.Pg
open Go Go.Proofs

set_option maxRecDepth 40000 in
set_option maxHeartbeats 40000000 in
theorem calls_do_slash (ls : Ls) (x1 x2 x3 x4 : Int) (x5 x6 : UInt8) (x7 : List UInt8) (x8 : Bool) (rg : UInt8) (cn : Int) (opr name : List UInt8) (arg : UInt8) (text : List UInt8) (op : Bool) (n : List UInt8) (ps : List (Int × Int)) (k : Int) (hf : okText ls) (_ : k ≤ 9223372036854775807) (h7 : x7.length ≤ 1099511627776) (ht : text.length ≤ 1099511627776) (D0 : (decide (cn < 0) = true ∧ k = cn) ∨ (decide (cn < 0) = false ∧ max cn 1 = k)) (hh : True) (_ : True) (b : Bool) (D : (name = [47] ∧ b = false) ∨ (name = [63] ∧ b = true)) :
    CallsR Tryz.prog 26 [.sl 1 (ls.map .str), .ptr 0 8 1 0 0, .agg (aCm (rg, cn, opr, name, arg, text)), .bool op, .ptr 1 2 1 0 0] (cxR (x1, x2, x3, x4, x5, x6, x7, x8) n ps) (aMove (searchP ls (x1, x2) (if text = [] then x7 else text) b k)) (cxR (x1, x2, x3, x4, x5, x6, (if text = [] then x7 else text), b) n ps) := by
  refine callsR_of (mrg := true) (dyn := [1, 21, 84]) (CtrOK.cons ok_RLeft (CtrOK.cons ok_RRight (CtrOK.cons ok_RZero (CtrOK.cons ok_RFirstOf (CtrOK.cons ok_RLast (CtrOK.cons ok_RColumn (CtrOK.cons ok_RSeek (CtrOK.cons ok_opposite (CtrOK.cons ok_RNext (CtrOK.cons ok_RBack (CtrOK.cons ok_RTail (CtrOK.cons ok_RBackTail (CtrOK.cons ok_RVertical (CtrOK.cons ok_RPlus (CtrOK.cons ok_RMinus (CtrOK.cons ok_RUnder (CtrOK.cons ok_RGoto (CtrOK.cons ok_RScreen (CtrOK.cons ok_RParaNext (CtrOK.cons ok_RParaBack (CtrOK.cons ok_RSentNext (CtrOK.cons ok_RSentBack (CtrOK.cons ok_RMatch (CtrOK.cons ok_RSearch (CtrOK.cons ok_RWord (CtrOK.cons ok_Get13 (CtrOK.cons ok_RClampD (CtrOK.cons ok_RFirst (CtrOK.nil _))))))))))))))))))))))))))))) mixed Tryz.func26 rfl (by simp [Tryz.ntmps26]) (by kernel_rfl) ?_
  rw [show Tryz.f26.results.toList = [.cell 10 49, .tmp 11] from by kernel_rfl]
  rw [search_eq]
  have D2 : ((text == []) = true ∧ text = []) ∨ ((text == []) = false ∧ ¬ text = []) := by
    by_cases h : text = []
    · exact .inl ⟨beq_iff_eq.2 h, h⟩
    · exact .inr ⟨beq_eq_false_iff_ne.2 h, h⟩
  rcases D2 with ⟨b0, b1⟩ | ⟨b0, b1⟩
  · rw [if_pos b1]
    rcases D with ⟨rfl, rfl⟩ | ⟨rfl, rfl⟩
    all_goals
      have D1 : (decide (cn < 0) = true ∧ k = cn ∧ decide (cn < 0) = true) ∨ (decide (cn < 0) = false ∧ k = k ∧ max cn 1 = k) := by
        rcases D0 with ⟨a, b⟩ | ⟨a, b⟩
        · exact .inl ⟨a, b, a⟩
        · exact .inr ⟨a, rfl, b⟩
      rcases D1 with ⟨c1, c2, c3⟩ | ⟨c1, c2, c3⟩
      all_goals try subst c2
      all_goals
        simp (maxSteps := 4000000) only [go_sem, Nat.reduceAdd, reduceCtorEq, Nat.reduceEqDiff, Nat.reduceLT, Nat.reduceBEq, Nat.reduceLeDiff, tk3, tk4, tk9, tk25, tz25, dz25, tk29, dz29, tk44, dz44, tk49, tz49, dz49, kMvN, kMvNB, kMv0, kSeek, kOpposite, kNext, kBackS, kTail, kBackE, kRVert, kRScreen, kRSearch, kWord, kGet13, kClampD, kFirst, aPos, aMove, aMv, byteA, UInt8.reduceToNat, cons_beq8, nil_cons8, c1, c3, b0, pureB_aPs]
        (repeat' first | exact hf | exact hk | exact h7 | exact ht | exact hh | exact hs | exact ⟨hf, hk⟩ | exact ⟨hf, h7⟩ | exact ⟨hf, ht⟩ | (show dynOrd _ _ = true; kernel_rfl) | exact subX_eq rfl rfl | exact subX_eq rfl (pureB_bytes _) | exact subX_eq rfl (pureB_aPs _) | exact trivial | apply And.intro | rfl | omega | apply subX_one)
        all_goals try simp (maxSteps := 4000000) only [go_sem, Nat.reduceAdd, reduceIte, reduceCtorEq, Nat.reduceEqDiff, Nat.reduceLT, Nat.reduceSub, Nat.reduceMul, Int.reduceToNat, Int.reduceLE, Int.reduceLT, UInt8.reduceOfNat, Nat.reduceBEq, Int.reduceBEq, Int.reduceBNe, Nat.reduceBNe, Nat.reducePow, Nat.reduceLeDiff, tk3, tz3, dz3, eb3, eq3, tk4, tz4, dz4, eb4, eq4, tk5, tz5, dz5, eb5, eq5, tk9, tz9, dz9, eb9, eq9, tk22, tz22, dz22, eb22, tk25, tz25, dz25, eb25, eq25, tk29, tz29, dz29, eb29, eq29, tk36, tz36, dz36, pt36, tk44, tz44, dz44, eb44, eq44, tk49, tz49, dz49, eb49, eq49]
  · rw [if_neg b1]
    rcases D with ⟨rfl, rfl⟩ | ⟨rfl, rfl⟩
    all_goals
      have D1 : (decide (cn < 0) = true ∧ k = cn ∧ decide (cn < 0) = true) ∨ (decide (cn < 0) = false ∧ k = k ∧ max cn 1 = k) := by
        rcases D0 with ⟨a, b⟩ | ⟨a, b⟩
        · exact .inl ⟨a, b, a⟩
        · exact .inr ⟨a, rfl, b⟩
      rcases D1 with ⟨c1, c2, c3⟩ | ⟨c1, c2, c3⟩
      all_goals try subst c2
      all_goals
        simp (maxSteps := 4000000) only [go_sem, Nat.reduceAdd, reduceCtorEq, Nat.reduceEqDiff, Nat.reduceLT, Nat.reduceBEq, Nat.reduceLeDiff, tk3, tk4, tk9, tk25, tz25, dz25, tk29, dz29, tk44, dz44, tk49, tz49, dz49, kMvN, kMvNB, kMv0, kSeek, kOpposite, kNext, kBackS, kTail, kBackE, kRVert, kRScreen, kRSearch, kWord, kGet13, kClampD, kFirst, aPos, aMove, aMv, byteA, UInt8.reduceToNat, cons_beq8, nil_cons8, c1, c3, b0, pureB_aPs]
        (repeat' first | exact hf | exact hk | exact h7 | exact ht | exact hh | exact hs | exact ⟨hf, hk⟩ | exact ⟨hf, h7⟩ | exact ⟨hf, ht⟩ | (show dynOrd _ _ = true; kernel_rfl) | exact subX_eq rfl rfl | exact subX_eq rfl (pureB_bytes _) | exact subX_eq rfl (pureB_aPs _) | exact trivial | apply And.intro | rfl | omega | apply subX_one)
        all_goals try simp (maxSteps := 4000000) only [go_sem, Nat.reduceAdd, reduceIte, reduceCtorEq, Nat.reduceEqDiff, Nat.reduceLT, Nat.reduceSub, Nat.reduceMul, Int.reduceToNat, Int.reduceLE, Int.reduceLT, UInt8.reduceOfNat, Nat.reduceBEq, Int.reduceBEq, Int.reduceBNe, Nat.reduceBNe, Nat.reducePow, Nat.reduceLeDiff, tk3, tz3, dz3, eb3, eq3, tk4, tz4, dz4, eb4, eq4, tk5, tz5, dz5, eb5, eq5, tk9, tz9, dz9, eb9, eq9, tk22, tz22, dz22, eb22, tk25, tz25, dz25, eb25, eq25, tk29, tz29, dz29, eb29, eq29, tk36, tz36, dz36, pt36, tk44, tz44, dz44, eb44, eq44, tk49, tz49, dz49, eb49, eq49]
set_option maxRecDepth 40000 in
set_option maxHeartbeats 40000000 in
theorem calls_do_star (ls : Ls) (x1 x2 x3 x4 : Int) (x5 x6 : UInt8) (x7 : List UInt8) (x8 : Bool) (rg : UInt8) (cn : Int) (opr name : List UInt8) (arg : UInt8) (text : List UInt8) (op : Bool) (n : List UInt8) (ps : List (Int × Int)) (k : Int) (hf : okText ls) (_ : k ≤ 9223372036854775807) (_ : x7.length ≤ 1099511627776) (_ : text.length ≤ 1099511627776) (D0 : (decide (cn < 0) = true ∧ k = cn) ∨ (decide (cn < 0) = false ∧ max cn 1 = k)) (hs : True) (b : Bool) (w1 w2 : Int) (wd : List UInt8) (hw : ((w1, w2), wd, true) = wordP ls (x1, x2)) (hh : wd.length ≤ 1099511627776) (D : (name = [42] ∧ b = false) ∨ (name = [35] ∧ b = true)) :
    CallsR Tryz.prog 26 [.sl 1 (ls.map .str), .ptr 0 8 1 0 0, .agg (aCm (rg, cn, opr, name, arg, text)), .bool op, .ptr 1 2 1 0 0] (cxR (x1, x2, x3, x4, x5, x6, x7, x8) n ps) (aMove (searchP ls (w1, w2) wd b k)) (cxR (x1, x2, x3, x4, x5, x6, wd, b) n ps) := by
  refine callsR_of (mrg := true) (dyn := [1, 21, 84]) (CtrOK.cons ok_RLeft (CtrOK.cons ok_RRight (CtrOK.cons ok_RZero (CtrOK.cons ok_RFirstOf (CtrOK.cons ok_RLast (CtrOK.cons ok_RColumn (CtrOK.cons ok_RSeek (CtrOK.cons ok_opposite (CtrOK.cons ok_RNext (CtrOK.cons ok_RBack (CtrOK.cons ok_RTail (CtrOK.cons ok_RBackTail (CtrOK.cons ok_RVertical (CtrOK.cons ok_RPlus (CtrOK.cons ok_RMinus (CtrOK.cons ok_RUnder (CtrOK.cons ok_RGoto (CtrOK.cons ok_RScreen (CtrOK.cons ok_RParaNext (CtrOK.cons ok_RParaBack (CtrOK.cons ok_RSentNext (CtrOK.cons ok_RSentBack (CtrOK.cons ok_RMatch (CtrOK.cons ok_RSearch (CtrOK.cons ok_RWord (CtrOK.cons ok_Get13 (CtrOK.cons ok_RClampD (CtrOK.cons ok_RFirst (CtrOK.nil _))))))))))))))))))))))))))))) mixed Tryz.func26 rfl (by simp [Tryz.ntmps26]) (by kernel_rfl) ?_
  rw [show Tryz.f26.results.toList = [.cell 10 49, .tmp 11] from by kernel_rfl]
  rw [search_eq]
  rcases D with ⟨rfl, rfl⟩ | ⟨rfl, rfl⟩
  all_goals
    have D1 : (decide (cn < 0) = true ∧ k = cn ∧ decide (cn < 0) = true) ∨ (decide (cn < 0) = false ∧ k = k ∧ max cn 1 = k) := by
      rcases D0 with ⟨a, b⟩ | ⟨a, b⟩
      · exact .inl ⟨a, b, a⟩
      · exact .inr ⟨a, rfl, b⟩
    rcases D1 with ⟨c1, c2, c3⟩ | ⟨c1, c2, c3⟩
    all_goals try subst c2
    all_goals
      simp (maxSteps := 4000000) only [go_sem, Nat.reduceAdd, reduceCtorEq, Nat.reduceEqDiff, Nat.reduceLT, Nat.reduceBEq, Nat.reduceLeDiff, tk3, tk4, tk9, tk25, tz25, dz25, tk29, dz29, tk44, dz44, tk49, tz49, dz49, kMvN, kMvNB, kMv0, kSeek, kOpposite, kNext, kBackS, kTail, kBackE, kRVert, kRScreen, kRSearch, kWord, kGet13, kClampD, kFirst, aPos, aMove, aMv, byteA, UInt8.reduceToNat, cons_beq8, nil_cons8, c1, c3, ←hw, aWd, pureB_aPs]
      (repeat' first | exact hf | exact hk | exact h7 | exact ht | exact hh | exact hs | exact ⟨hf, hk⟩ | exact ⟨hf, h7⟩ | exact ⟨hf, ht⟩ | (show dynOrd _ _ = true; kernel_rfl) | exact subX_eq rfl rfl | exact subX_eq rfl (pureB_bytes _) | exact subX_eq rfl (pureB_aPs _) | exact trivial | apply And.intro | rfl | omega | apply subX_one)
      all_goals try simp (maxSteps := 4000000) only [go_sem, Nat.reduceAdd, reduceIte, reduceCtorEq, Nat.reduceEqDiff, Nat.reduceLT, Nat.reduceSub, Nat.reduceMul, Int.reduceToNat, Int.reduceLE, Int.reduceLT, UInt8.reduceOfNat, Nat.reduceBEq, Int.reduceBEq, Int.reduceBNe, Nat.reduceBNe, Nat.reducePow, Nat.reduceLeDiff, tk3, tz3, dz3, eb3, eq3, tk4, tz4, dz4, eb4, eq4, tk5, tz5, dz5, eb5, eq5, tk9, tz9, dz9, eb9, eq9, tk22, tz22, dz22, eb22, tk25, tz25, dz25, eb25, eq25, tk29, tz29, dz29, eb29, eq29, tk36, tz36, dz36, pt36, tk44, tz44, dz44, eb44, eq44, tk49, tz49, dz49, eb49, eq49]
set_option maxRecDepth 40000 in
set_option maxHeartbeats 40000000 in
theorem calls_do_star0 (ls : Ls) (x1 x2 x3 x4 : Int) (x5 x6 : UInt8) (x7 : List UInt8) (x8 : Bool) (rg : UInt8) (cn : Int) (opr name : List UInt8) (arg : UInt8) (text : List UInt8) (op : Bool) (n : List UInt8) (ps : List (Int × Int)) (k : Int) (hf : okText ls) (_ : k ≤ 9223372036854775807) (_ : x7.length ≤ 1099511627776) (_ : text.length ≤ 1099511627776) (D0 : (decide (cn < 0) = true ∧ k = cn) ∨ (decide (cn < 0) = false ∧ max cn 1 = k)) (hh : True) (_ : True) (w : Int × Int) (wd : List UInt8) (hw : (w, wd, false) = wordP ls (x1, x2)) (D : name = [42] ∨ name = [35]) :
    CallsR Tryz.prog 26 [.sl 1 (ls.map .str), .ptr 0 8 1 0 0, .agg (aCm (rg, cn, opr, name, arg, text)), .bool op, .ptr 1 2 1 0 0] (cxR (x1, x2, x3, x4, x5, x6, x7, x8) n ps) (aMove mNone) (cxR (x1, x2, x3, x4, x5, x6, x7, x8) n ps) := by
  refine callsR_of (mrg := true) (dyn := [1, 21, 84]) (CtrOK.cons ok_RLeft (CtrOK.cons ok_RRight (CtrOK.cons ok_RZero (CtrOK.cons ok_RFirstOf (CtrOK.cons ok_RLast (CtrOK.cons ok_RColumn (CtrOK.cons ok_RSeek (CtrOK.cons ok_opposite (CtrOK.cons ok_RNext (CtrOK.cons ok_RBack (CtrOK.cons ok_RTail (CtrOK.cons ok_RBackTail (CtrOK.cons ok_RVertical (CtrOK.cons ok_RPlus (CtrOK.cons ok_RMinus (CtrOK.cons ok_RUnder (CtrOK.cons ok_RGoto (CtrOK.cons ok_RScreen (CtrOK.cons ok_RParaNext (CtrOK.cons ok_RParaBack (CtrOK.cons ok_RSentNext (CtrOK.cons ok_RSentBack (CtrOK.cons ok_RMatch (CtrOK.cons ok_RSearch (CtrOK.cons ok_RWord (CtrOK.cons ok_Get13 (CtrOK.cons ok_RClampD (CtrOK.cons ok_RFirst (CtrOK.nil _))))))))))))))))))))))))))))) mixed Tryz.func26 rfl (by simp [Tryz.ntmps26]) (by kernel_rfl) ?_
  rw [show Tryz.f26.results.toList = [.cell 10 49, .tmp 11] from by kernel_rfl]
  rcases D with rfl | rfl
  all_goals
    have D1 : (decide (cn < 0) = true ∧ k = cn ∧ decide (cn < 0) = true) ∨ (decide (cn < 0) = false ∧ k = k ∧ max cn 1 = k) := by
      rcases D0 with ⟨a, b⟩ | ⟨a, b⟩
      · exact .inl ⟨a, b, a⟩
      · exact .inr ⟨a, rfl, b⟩
    rcases D1 with ⟨c1, c2, c3⟩ | ⟨c1, c2, c3⟩
    all_goals try subst c2
    all_goals
      simp (maxSteps := 4000000) only [go_sem, Nat.reduceAdd, reduceCtorEq, Nat.reduceEqDiff, Nat.reduceLT, Nat.reduceBEq, Nat.reduceLeDiff, tk3, tk9, tk25, tz25, dz25, tk29, dz29, tk44, dz44, tk49, tz49, dz49, kMvN, kMvNB, kMv0, kSeek, kOpposite, kNext, kBackS, kTail, kBackE, kRVert, kRScreen, kRSearch, kWord, kGet13, kClampD, kFirst, aPos, aMove, aMv, mNone, byteA, UInt8.reduceToNat, cons_beq8, nil_cons8, c1, c3, ←hw, aWd, pureB_aPs]
      (repeat' first | exact hf | exact hk | exact h7 | exact ht | exact hh | exact hs | exact ⟨hf, hk⟩ | exact ⟨hf, h7⟩ | exact ⟨hf, ht⟩ | (show dynOrd _ _ = true; kernel_rfl) | exact subX_eq rfl rfl | exact subX_eq rfl (pureB_bytes _) | exact subX_eq rfl (pureB_aPs _) | exact trivial | apply And.intro | rfl | omega | apply subX_one)
      all_goals try simp (maxSteps := 4000000) only [go_sem, Nat.reduceAdd, reduceIte, reduceCtorEq, Nat.reduceEqDiff, Nat.reduceLT, Nat.reduceSub, Nat.reduceMul, Int.reduceToNat, Int.reduceLE, Int.reduceLT, UInt8.reduceOfNat, Nat.reduceBEq, Int.reduceBEq, Int.reduceBNe, Nat.reduceBNe, Nat.reducePow, Nat.reduceLeDiff, tk3, tz3, dz3, eb3, eq3, tk4, tz4, dz4, eb4, eq4, tk5, tz5, dz5, eb5, eq5, tk9, tz9, dz9, eb9, eq9, tk22, tz22, dz22, eb22, tk25, tz25, dz25, eb25, eq25, tk29, tz29, dz29, eb29, eq29, tk36, tz36, dz36, pt36, tk44, tz44, dz44, eb44, eq44, tk49, tz49, dz49, eb49, eq49]
end Go.Pg
