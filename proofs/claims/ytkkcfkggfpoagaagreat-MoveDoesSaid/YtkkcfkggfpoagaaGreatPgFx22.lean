/- The document's motions by their names: to marks; no motion. A motion, by its name, marks and all: the program's. -/
import Derived.Test.YtkkcfkggfpoagaaGreatPgBs
import Derived.Test.YtkkcfkggfpoagaaGreatPgFx18
import Derived.Test.YtkkcfkggfpoagaaGreatPgFx11
set_option linter.unusedVariables false
set_option linter.unusedSimpArgs false
namespace Go.Pg
open Go Go.Proofs

/-- A motion to a mark. -/
def markP (ls : Ls) (r : Option (Int × Int)) (quote : Bool) : Mv × Bool := match r with
  | none => mNone
  | some q => if quote = true then (((( clampP ls q true).1, firstC (ls.getD (clampP ls q true).1.toNat [])), 2, true, -1), true) else ((clampP ls q true, 0, true, -1), true)
def nameM (b : UInt8) : UInt8 := if b = 39 then 96 else b
set_option maxRecDepth 40000 in
set_option maxHeartbeats 40000000 in
theorem calls_do_mark0 (ls : Ls) (x1 x2 x3 x4 : Int) (x5 x6 : UInt8) (x7 : List UInt8) (x8 : Bool) (rg : UInt8) (cn : Int) (opr name : List UInt8) (arg : UInt8) (text : List UInt8) (op : Bool) (n : List UInt8) (ps : List (Int × Int)) (k : Int) (_ : okText ls) (_ : k ≤ 9223372036854775807) (_ : x7.length ≤ 1099511627776) (_ : text.length ≤ 1099511627776) (D0 : (decide (cn < 0) = true ∧ k = cn) ∨ (decide (cn < 0) = false ∧ max cn 1 = k)) (hh : True) (hs : n.length = ps.length ∧ n.length ≤ 1000) (hl0 : 0 < ls.length) (q : Bool) (D : (name = [39] ∧ q = true) ∨ (name = [96] ∧ q = false)) (hg : none = rGet (nameM arg) n ps) :
    CallsR Tryz.prog 26 [.sl 1 (ls.map .str), .ptr 0 8 1 0 0, .agg (aCm (rg, cn, opr, name, arg, text)), .bool op, .ptr 1 2 1 0 0] (cxR (x1, x2, x3, x4, x5, x6, x7, x8) n ps) (aMove mNone) (cxR (x1, x2, x3, x4, x5, x6, x7, x8) n ps) := by
  refine callsR_of (mrg := true) (dyn := [1, 21, 84]) (CtrOK.cons ok_RLeft (CtrOK.cons ok_RRight (CtrOK.cons ok_RZero (CtrOK.cons ok_RFirstOf (CtrOK.cons ok_RLast (CtrOK.cons ok_RColumn (CtrOK.cons ok_RSeek (CtrOK.cons ok_opposite (CtrOK.cons ok_RNext (CtrOK.cons ok_RBack (CtrOK.cons ok_RTail (CtrOK.cons ok_RBackTail (CtrOK.cons ok_RVertical (CtrOK.cons ok_RPlus (CtrOK.cons ok_RMinus (CtrOK.cons ok_RUnder (CtrOK.cons ok_RGoto (CtrOK.cons ok_RScreen (CtrOK.cons ok_RParaNext (CtrOK.cons ok_RParaBack (CtrOK.cons ok_RSentNext (CtrOK.cons ok_RSentBack (CtrOK.cons ok_RMatch (CtrOK.cons ok_RSearch (CtrOK.cons ok_RWord (CtrOK.cons ok_Get13 (CtrOK.cons ok_RClampD (CtrOK.cons ok_RFirst (CtrOK.nil _))))))))))))))))))))))))))))) mixed Tryz.func26 rfl (by simp [Tryz.ntmps26]) (by kernel_rfl) ?_
  rw [show Tryz.f26.results.toList = [.cell 10 49, .tmp 11] from by kernel_rfl]
  have c4 : ((ls.length : Int) == 0) = false := beq_eq_false_iff_ne.2 (by omega)
  have D2 : (((arg.toNat : Int) == 39) = true ∧ nameM arg = 96) ∨ (((arg.toNat : Int) == 39) = false ∧ nameM arg = arg) := by
    unfold nameM
    by_cases h : arg = 39
    · exact .inl ⟨byte_lit0 arg 39 39 rfl h, if_pos h⟩
    · exact .inr ⟨byte_lit arg 39 39 rfl h, if_neg h⟩
  rcases D2 with ⟨b0, b1⟩ | ⟨b0, b1⟩
  all_goals
    rw [b1] at hg
    rcases D with ⟨rfl, rfl⟩ | ⟨rfl, rfl⟩
  all_goals
    have D1 : (decide (cn < 0) = true ∧ k = cn ∧ decide (cn < 0) = true) ∨ (decide (cn < 0) = false ∧ k = k ∧ max cn 1 = k) := by
      rcases D0 with ⟨a, b⟩ | ⟨a, b⟩
      · exact .inl ⟨a, b, a⟩
      · exact .inr ⟨a, rfl, b⟩
    rcases D1 with ⟨c1, c2, c3⟩ | ⟨c1, c2, c3⟩
    all_goals try subst c2
    all_goals
      simp (maxSteps := 4000000) only [go_sem, Nat.reduceAdd, reduceCtorEq, Nat.reduceEqDiff, Nat.reduceLT, Nat.reduceSub, Int.reduceToNat, Int.reduceLE, Int.reduceLT, UInt8.reduceOfNat, Nat.reduceBEq, Nat.reduceLeDiff, tk3, tk5, tk9, tk22, tk25, tz25, dz25, tk29, dz29, pt36, tk44, dz44, tk49, tz49, dz49, kMvN, kMvNB, kMv0, kSeek, kOpposite, kNext, kBackS, kTail, kBackE, kRVert, kRScreen, kRSearch, kWord, kGet13, kClampD, kFirst, aPos, aMove, aMv, mNone, byteA, UInt8.reduceToNat, cons_beq8, nil_cons8, c1, c3, hRef, decL_aPs, renL_aPs, renL_bytes, b0, c4, ←hg, length_aPs, pureB_aPs]
      (repeat' first | exact hf | exact hk | exact h7 | exact ht | exact hh | exact hs | exact ⟨hf, hk⟩ | exact ⟨hf, h7⟩ | exact ⟨hf, ht⟩ | (show dynOrd _ _ = true; kernel_rfl) | exact subX_eq rfl rfl | exact subX_eq rfl (pureB_bytes _) | exact subX_eq rfl (pureB_aPs _) | exact trivial | apply And.intro | rfl | omega | apply subX_one)
      all_goals try simp (maxSteps := 4000000) only [go_sem, Nat.reduceAdd, reduceIte, reduceCtorEq, Nat.reduceEqDiff, Nat.reduceLT, Nat.reduceSub, Nat.reduceMul, Int.reduceToNat, Int.reduceLE, Int.reduceLT, UInt8.reduceOfNat, Nat.reduceBEq, Int.reduceBEq, Int.reduceBNe, Nat.reduceBNe, Nat.reducePow, Nat.reduceLeDiff, tk3, tz3, dz3, eb3, eq3, tk4, tz4, dz4, eb4, eq4, tk5, tz5, dz5, eb5, eq5, tk9, tz9, dz9, eb9, eq9, tk22, tz22, dz22, eb22, tk25, tz25, dz25, eb25, eq25, tk29, tz29, dz29, eb29, eq29, tk36, tz36, dz36, pt36, tk44, tz44, dz44, eb44, eq44, tk49, tz49, dz49, eb49, eq49]
set_option maxRecDepth 40000 in
set_option maxHeartbeats 40000000 in
theorem calls_do_mark (ls : Ls) (x1 x2 x3 x4 : Int) (x5 x6 : UInt8) (x7 : List UInt8) (x8 : Bool) (rg : UInt8) (cn : Int) (opr name : List UInt8) (arg : UInt8) (text : List UInt8) (op : Bool) (n : List UInt8) (ps : List (Int × Int)) (k : Int) (hf : okText ls) (_ : k ≤ 9223372036854775807) (_ : x7.length ≤ 1099511627776) (_ : text.length ≤ 1099511627776) (D0 : (decide (cn < 0) = true ∧ k = cn) ∨ (decide (cn < 0) = false ∧ max cn 1 = k)) (hs : n.length = ps.length ∧ n.length ≤ 1000) (hl0 : 0 < ls.length) (q : Bool) (D : (name = [39] ∧ q = true) ∨ (name = [96] ∧ q = false)) (g1 g2 : Int) (hg : some (g1, g2) = rGet (nameM arg) n ps) (hh : small ls) (t1 t2 : Int) (hc : (t1, t2) = clampP ls (g1, g2) true) :
    CallsR Tryz.prog 26 [.sl 1 (ls.map .str), .ptr 0 8 1 0 0, .agg (aCm (rg, cn, opr, name, arg, text)), .bool op, .ptr 1 2 1 0 0] (cxR (x1, x2, x3, x4, x5, x6, x7, x8) n ps) (aMove (if q = true then (((t1, firstC (ls.getD t1.toNat [])), 2, true, -1), true) else (((t1, t2), 0, true, -1), true))) (cxR (x1, x2, x3, x4, x5, x6, x7, x8) n ps) := by
  refine callsR_of (mrg := true) (dyn := [1, 21, 84]) (CtrOK.cons ok_RLeft (CtrOK.cons ok_RRight (CtrOK.cons ok_RZero (CtrOK.cons ok_RFirstOf (CtrOK.cons ok_RLast (CtrOK.cons ok_RColumn (CtrOK.cons ok_RSeek (CtrOK.cons ok_opposite (CtrOK.cons ok_RNext (CtrOK.cons ok_RBack (CtrOK.cons ok_RTail (CtrOK.cons ok_RBackTail (CtrOK.cons ok_RVertical (CtrOK.cons ok_RPlus (CtrOK.cons ok_RMinus (CtrOK.cons ok_RUnder (CtrOK.cons ok_RGoto (CtrOK.cons ok_RScreen (CtrOK.cons ok_RParaNext (CtrOK.cons ok_RParaBack (CtrOK.cons ok_RSentNext (CtrOK.cons ok_RSentBack (CtrOK.cons ok_RMatch (CtrOK.cons ok_RSearch (CtrOK.cons ok_RWord (CtrOK.cons ok_Get13 (CtrOK.cons ok_RClampD (CtrOK.cons ok_RFirst (CtrOK.nil _))))))))))))))))))))))))))))) mixed Tryz.func26 rfl (by simp [Tryz.ntmps26]) (by kernel_rfl) ?_
  rw [show Tryz.f26.results.toList = [.cell 10 49, .tmp 11] from by kernel_rfl]
  have c4 : ((ls.length : Int) == 0) = false := beq_eq_false_iff_ne.2 (by omega)
  have hci := clamp_in' ls (g1, g2) true hl0
  rw [← hc] at hci
  have h6 := fits_getD hf t1.toNat
  have D2 : (((arg.toNat : Int) == 39) = true ∧ nameM arg = 96) ∨ (((arg.toNat : Int) == 39) = false ∧ nameM arg = arg) := by
    unfold nameM
    by_cases h : arg = 39
    · exact .inl ⟨byte_lit0 arg 39 39 rfl h, if_pos h⟩
    · exact .inr ⟨byte_lit arg 39 39 rfl h, if_neg h⟩
  rcases D2 with ⟨b0, b1⟩ | ⟨b0, b1⟩
  all_goals
    rw [b1] at hg
    rcases D with ⟨rfl, rfl⟩ | ⟨rfl, rfl⟩
  all_goals
    simp only [Bool.false_eq_true, if_true, if_false]
    have D1 : (decide (cn < 0) = true ∧ k = cn ∧ decide (cn < 0) = true) ∨ (decide (cn < 0) = false ∧ k = k ∧ max cn 1 = k) := by
      rcases D0 with ⟨a, b⟩ | ⟨a, b⟩
      · exact .inl ⟨a, b, a⟩
      · exact .inr ⟨a, rfl, b⟩
    rcases D1 with ⟨c1, c2, c3⟩ | ⟨c1, c2, c3⟩
    all_goals try subst c2
    all_goals
      simp (maxSteps := 4000000) only [go_sem, Nat.reduceAdd, reduceCtorEq, Nat.reduceEqDiff, Nat.reduceLT, Nat.reduceSub, Int.reduceToNat, Int.reduceLE, Int.reduceLT, UInt8.reduceOfNat, Nat.reduceBEq, Nat.reduceLeDiff, tk3, tk5, tk9, dz9, tk22, tk25, tz25, dz25, tk29, dz29, pt36, tk44, dz44, tk49, tz49, dz49, kMvN, kMvNB, kMv0, kSeek, kOpposite, kNext, kBackS, kTail, kBackE, kRVert, kRScreen, kRSearch, kWord, kGet13, kClampD, kFirst, aPos, aMove, aMv, byteA, UInt8.reduceToNat, cons_beq8, nil_cons8, c1, c3, hRef, decL_aPs, renL_aPs, renL_bytes, b0, c4, ←hg, ←hc, length_aPs, pureB_aPs]
      (repeat' first | exact hf | exact hk | exact h7 | exact ht | exact hh | exact hs | exact ⟨hf, hk⟩ | exact ⟨hf, h7⟩ | exact ⟨hf, ht⟩ | (show dynOrd _ _ = true; kernel_rfl) | exact subX_eq rfl rfl | exact subX_eq rfl (pureB_bytes _) | exact subX_eq rfl (pureB_aPs _) | exact trivial | apply And.intro | rfl | omega | apply subX_one)
      all_goals try simp (maxSteps := 4000000) only [go_sem, Nat.reduceAdd, reduceIte, reduceCtorEq, Nat.reduceEqDiff, Nat.reduceLT, Nat.reduceSub, Nat.reduceMul, Int.reduceToNat, Int.reduceLE, Int.reduceLT, UInt8.reduceOfNat, Nat.reduceBEq, Int.reduceBEq, Int.reduceBNe, Nat.reduceBNe, Nat.reducePow, Nat.reduceLeDiff, tk3, tz3, dz3, eb3, eq3, tk4, tz4, dz4, eb4, eq4, tk5, tz5, dz5, eb5, eq5, tk9, tz9, dz9, eb9, eq9, tk22, tz22, dz22, eb22, tk25, tz25, dz25, eb25, eq25, tk29, tz29, dz29, eb29, eq29, tk36, tz36, dz36, pt36, tk44, tz44, dz44, eb44, eq44, tk49, tz49, dz49, eb49, eq49]
set_option maxRecDepth 40000 in
set_option maxHeartbeats 40000000 in
theorem calls_do_none (ls : Ls) (x1 x2 x3 x4 : Int) (x5 x6 : UInt8) (x7 : List UInt8) (x8 : Bool) (rg : UInt8) (cn : Int) (opr name : List UInt8) (arg : UInt8) (text : List UInt8) (op : Bool) (n : List UInt8) (ps : List (Int × Int)) (k : Int) (_ : okText ls) (_ : k ≤ 9223372036854775807) (_ : x7.length ≤ 1099511627776) (_ : text.length ≤ 1099511627776) (D0 : (decide (cn < 0) = true ∧ k = cn) ∨ (decide (cn < 0) = false ∧ max cn 1 = k)) (hh : True) (_ : True) (q0 : (name == [104]) = false) (q1 : (name == [108]) = false) (q2 : (name == [48]) = false) (q3 : (name == [94]) = false) (q4 : (name == [36]) = false) (q5 : (name == [124]) = false) (q6 : (name == [59]) = false) (q7 : (name == [119]) = false) (q8 : (name == [87]) = false) (q9 : (name == [98]) = false) (q10 : (name == [66]) = false) (q11 : (name == [101]) = false) (q12 : (name == [69]) = false) (q13 : (name == [103, 101]) = false) (q14 : (name == [103, 69]) = false) (q15 : (name == [106]) = false) (q16 : (name == [107]) = false) (q17 : (name == [43]) = false) (q18 : (name == [45]) = false) (q19 : (name == [95]) = false) (q20 : (name == [103, 103]) = false) (q21 : (name == [72]) = false) (q22 : (name == [77]) = false) (q23 : (name == [76]) = false) (q24 : (name == [125]) = false) (q25 : (name == [123]) = false) (q26 : (name == [41]) = false) (q27 : (name == [40]) = false) (q28 : (name == [37]) = false) (q29 : (name == [110]) = false) (q30 : (name == [78]) = false) (q31 : (name == [102]) = false) (q32 : (name == [70]) = false) (q33 : (name == [116]) = false) (q34 : (name == [84]) = false) (q35 : (name == [44]) = false) (q36 : (name == [71]) = false) (q37 : (name == [47]) = false) (q38 : (name == [63]) = false) (q39 : (name == [42]) = false) (q40 : (name == [35]) = false) (q41 : (name == [39]) = false) (q42 : (name == [96]) = false) :
    CallsR Tryz.prog 26 [.sl 1 (ls.map .str), .ptr 0 8 1 0 0, .agg (aCm (rg, cn, opr, name, arg, text)), .bool op, .ptr 1 2 1 0 0] (cxR (x1, x2, x3, x4, x5, x6, x7, x8) n ps) (aMove mNone) (cxR (x1, x2, x3, x4, x5, x6, x7, x8) n ps) := by
  refine callsR_of (mrg := true) (dyn := [1, 21, 84]) (CtrOK.cons ok_RLeft (CtrOK.cons ok_RRight (CtrOK.cons ok_RZero (CtrOK.cons ok_RFirstOf (CtrOK.cons ok_RLast (CtrOK.cons ok_RColumn (CtrOK.cons ok_RSeek (CtrOK.cons ok_opposite (CtrOK.cons ok_RNext (CtrOK.cons ok_RBack (CtrOK.cons ok_RTail (CtrOK.cons ok_RBackTail (CtrOK.cons ok_RVertical (CtrOK.cons ok_RPlus (CtrOK.cons ok_RMinus (CtrOK.cons ok_RUnder (CtrOK.cons ok_RGoto (CtrOK.cons ok_RScreen (CtrOK.cons ok_RParaNext (CtrOK.cons ok_RParaBack (CtrOK.cons ok_RSentNext (CtrOK.cons ok_RSentBack (CtrOK.cons ok_RMatch (CtrOK.cons ok_RSearch (CtrOK.cons ok_RWord (CtrOK.cons ok_Get13 (CtrOK.cons ok_RClampD (CtrOK.cons ok_RFirst (CtrOK.nil _))))))))))))))))))))))))))))) mixed Tryz.func26 rfl (by simp [Tryz.ntmps26]) (by kernel_rfl) ?_
  rw [show Tryz.f26.results.toList = [.cell 10 49, .tmp 11] from by kernel_rfl]
  · skip
    have D1 : (decide (cn < 0) = true ∧ k = cn ∧ decide (cn < 0) = true) ∨ (decide (cn < 0) = false ∧ k = k ∧ max cn 1 = k) := by
      rcases D0 with ⟨a, b⟩ | ⟨a, b⟩
      · exact .inl ⟨a, b, a⟩
      · exact .inr ⟨a, rfl, b⟩
    rcases D1 with ⟨c1, c2, c3⟩ | ⟨c1, c2, c3⟩
    all_goals try subst c2
    all_goals
      simp (maxSteps := 4000000) only [go_sem, Nat.reduceAdd, reduceCtorEq, Nat.reduceEqDiff, Nat.reduceLT, Nat.reduceBEq, Nat.reduceLeDiff, tk3, tk9, tk25, tz25, dz25, tk29, dz29, tk44, dz44, tk49, tz49, dz49, kMvN, kMvNB, kMv0, kSeek, kOpposite, kNext, kBackS, kTail, kBackE, kRVert, kRScreen, kRSearch, kWord, kGet13, kClampD, kFirst, aPos, aMove, aMv, mNone, byteA, c1, c3, q0, q1, q2, q3, q4, q5, q6, q7, q8, q9, q10, q11, q12, q13, q14, q15, q16, q17, q18, q19, q20, q21, q22, q23, q24, q25, q26, q27, q28, q29, q30, q31, q32, q33, q34, q35, q36, q37, q38, q39, q40, q41, q42, pureB_aPs]
      (repeat' first | exact hf | exact hk | exact h7 | exact ht | exact hh | exact hs | exact ⟨hf, hk⟩ | exact ⟨hf, h7⟩ | exact ⟨hf, ht⟩ | (show dynOrd _ _ = true; kernel_rfl) | exact subX_eq rfl rfl | exact subX_eq rfl (pureB_bytes _) | exact subX_eq rfl (pureB_aPs _) | exact trivial | apply And.intro | rfl | omega | apply subX_one)
      all_goals try simp (maxSteps := 4000000) only [go_sem, Nat.reduceAdd, reduceIte, reduceCtorEq, Nat.reduceEqDiff, Nat.reduceLT, Nat.reduceSub, Nat.reduceMul, Int.reduceToNat, Int.reduceLE, Int.reduceLT, UInt8.reduceOfNat, Nat.reduceBEq, Int.reduceBEq, Int.reduceBNe, Nat.reduceBNe, Nat.reducePow, Nat.reduceLeDiff, tk3, tz3, dz3, eb3, eq3, tk4, tz4, dz4, eb4, eq4, tk5, tz5, dz5, eb5, eq5, tk9, tz9, dz9, eb9, eq9, tk22, tz22, dz22, eb22, tk25, tz25, dz25, eb25, eq25, tk29, tz29, dz29, eb29, eq29, tk36, tz36, dz36, pt36, tk44, tz44, dz44, eb44, eq44, tk49, tz49, dz49, eb49, eq49]
end Go.Pg
namespace Go.Pg
open Go Go.Proofs

abbrev cxM (x : Cx) (l : Mks) : AH := [.arr 27 8 [aCx x], .arr 58 1 [.agg [.mp 2]], .mp (encE cByte cPos l)]
set_option maxRecDepth 20000 in
set_option maxHeartbeats 8000000 in
theorem calls_markM (ls : Ls) (x : Cx) (c : Cm) (n : Int) (op : Bool) (l : Mks) (hf : okText ls) (hl0 : 0 < ls.length) (q : Bool) (D : (c.2.2.2.1 = [39] ∧ q = true) ∨ (c.2.2.2.1 = [96] ∧ q = false)) :
    CallsR Tryz.prog 23 [aAsk ls c n op, .ptr 1 1 1 0 0] (cxM x l) (aMove (markP ls (look1 (nameM c.2.2.2.2.1) l) q)) (cxM x l) := by
  refine callsR_of (mrg := true) (dyn := []) (CtrOK.cons ok_Get (CtrOK.cons ok_Clamp (CtrOK.cons ok_First (CtrOK.nil _)))) mixed Tryz.func23 rfl (by simp [Tryz.ntmps23]) (by kernel_rfl) ?_
  rw [show Tryz.f23.results.toList = [.cell 4 49, .tmp 5] from by kernel_rfl]
  obtain ⟨rg, cn, opr, name, arg, text⟩ := c
  have hsm := small_of hf
  dsimp only at D ⊢
  obtain ⟨b, hb⟩ : ∃ b, b = nameM arg := ⟨_, rfl⟩
  have D2 : (((arg.toNat : Int) == 39) = true ∧ b = 96) ∨ (((arg.toNat : Int) == 39) = false ∧ b = arg) := by
    rw [hb]
    unfold nameM
    by_cases h : arg = 39
    · exact .inl ⟨byte_lit0 arg 39 39 rfl h, if_pos h⟩
    · exact .inr ⟨byte_lit arg 39 39 rfl h, if_neg h⟩
  obtain ⟨g, hg⟩ : ∃ g, g = look1 (nameM arg) l := ⟨_, rfl⟩
  rw [← hg]
  rw [← hb] at hg
  unfold markP
  cases g with
  | none =>
    rcases D with ⟨rfl, rfl⟩ | ⟨rfl, rfl⟩
    all_goals
      rcases D2 with ⟨b0, rfl⟩ | ⟨b0, rfl⟩
      all_goals
        simp (maxSteps := 4000000) only [go_sem, Nat.reduceAdd, reduceCtorEq, Nat.reduceEqDiff, Nat.reduceLT, Nat.reduceSub, Int.reduceToNat, Int.reduceLE, Int.reduceLT, UInt8.reduceOfNat, Nat.reduceBEq, tk5, tk25, tz25, dz25, tk29, pt34, tk49, tz49, dz49, tk68, dz68, kGet, hMarks, decE_pos, aMove, aMv, mNone, byteA, b0, ←hg]
        (repeat' first | (show dynOrd _ _ = true; kernel_rfl) | exact subX_eq rfl rfl | exact trivial | apply And.intro | rfl | omega | apply subX_one)
        all_goals try simp (maxSteps := 4000000) only [go_sem, Nat.reduceAdd, reduceIte, reduceCtorEq, Nat.reduceEqDiff, Nat.reduceLT, Nat.reduceSub, Nat.reduceMul, Int.reduceToNat, Int.reduceLE, Int.reduceLT, UInt8.reduceOfNat, Nat.reduceBEq, Int.reduceBEq, Int.reduceBNe, Nat.reduceBNe, Nat.reducePow, Nat.reduceLeDiff, tk3, tz3, dz3, eb3, eq3, tk4, tz4, dz4, eb4, eq4, tk5, tz5, dz5, eb5, eq5, tk9, tz9, dz9, eb9, eq9, tk22, tz22, dz22, eb22, tk25, tz25, dz25, eb25, eq25, tk29, tz29, dz29, eb29, eq29, tk34, tz34, dz34, pt34, tk49, tz49, dz49, eb49, eq49, tk68, tz68, dz68, eb68]
  | some g =>
    obtain ⟨g1, g2⟩ := g
    obtain ⟨t, ht⟩ : ∃ t, t = clampP ls (g1, g2) true := ⟨_, rfl⟩
    dsimp only
    rw [← ht]
    obtain ⟨t1, t2⟩ := t
    have hci := clamp_in' ls (g1, g2) true hl0
    rw [← ht] at hci
    have h6 := fits_getD hf t1.toNat
    rcases D with ⟨rfl, rfl⟩ | ⟨rfl, rfl⟩
    all_goals
      simp only [Bool.false_eq_true, if_true, if_false]
      rcases D2 with ⟨b0, rfl⟩ | ⟨b0, rfl⟩
      all_goals
        simp (maxSteps := 4000000) only [go_sem, Nat.reduceAdd, reduceCtorEq, Nat.reduceEqDiff, Nat.reduceLT, Nat.reduceSub, Int.reduceToNat, Int.reduceLE, Int.reduceLT, UInt8.reduceOfNat, Nat.reduceBEq, Nat.reduceLeDiff, tk3, tk5, tk9, dz9, tk22, tk25, tz25, dz25, tk29, pt34, tk49, tz49, dz49, tk68, dz68, kGet, kClamp, kFirst, hMarks, decE_pos, aMove, aMv, aPos, byteA, UInt8.reduceToNat, cons_beq8, b0, ←hg, ←ht]
        (repeat' first | exact hsm | exact hci.1 | exact hci.2 | (show dynOrd _ _ = true; kernel_rfl) | exact subX_eq rfl rfl | exact trivial | apply And.intro | rfl | omega | apply subX_one)
        all_goals try simp (maxSteps := 4000000) only [go_sem, Nat.reduceAdd, reduceIte, reduceCtorEq, Nat.reduceEqDiff, Nat.reduceLT, Nat.reduceSub, Nat.reduceMul, Int.reduceToNat, Int.reduceLE, Int.reduceLT, UInt8.reduceOfNat, Nat.reduceBEq, Int.reduceBEq, Int.reduceBNe, Nat.reduceBNe, Nat.reducePow, Nat.reduceLeDiff, tk3, tz3, dz3, eb3, eq3, tk4, tz4, dz4, eb4, eq4, tk5, tz5, dz5, eb5, eq5, tk9, tz9, dz9, eb9, eq9, tk22, tz22, dz22, eb22, tk25, tz25, dz25, eb25, eq25, tk29, tz29, dz29, eb29, eq29, tk34, tz34, dz34, pt34, tk49, tz49, dz49, eb49, eq49, tk68, tz68, dz68, eb68]
end Go.Pg
