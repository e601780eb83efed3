/- The document's motions by their names: some of them. -/
import Derived.Test.YtkkcfkggfpoagaaGreatPgBs
import Derived.Test.YtkkcfkggfpoagaaGreatPgFx18
set_option linter.unusedVariables false
set_option linter.unusedSimpArgs false
namespace Go.Pg
open Go Go.Proofs

set_option maxRecDepth 40000 in
set_option maxHeartbeats 40000000 in
theorem calls_do_c (ls : Ls) (x1 x2 x3 x4 : Int) (x5 x6 : UInt8) (x7 : List UInt8) (x8 : Bool) (rg : UInt8) (cn : Int) (opr name : List UInt8) (arg : UInt8) (text : List UInt8) (op : Bool) (n : List UInt8) (ps : List (Int × Int)) (k : Int) (hf : okText ls) (hk : k ≤ 9223372036854775807) (h7 : x7.length ≤ 1099511627776)
    (D0 : (decide (cn < 0) = true ∧ k = cn) ∨ (decide (cn < 0) = false ∧ max cn 1 = k))
    (D : (name = [103, 103] ∧ lineA ls (x1, x2, x3, x4, x5, x6, x7, x8) (rg, cn, opr, [103, 103], arg, text) k op = (gotoP ls (x1, x2) k, (x1, x2, x3, x4, x5, x6, x7, x8))) ∨ (name = [72] ∧ lineA ls (x1, x2, x3, x4, x5, x6, x7, x8) (rg, cn, opr, [72], arg, text) k op = (screenP ls (x1, x2) x4 72 k, (x1, x2, x3, x4, x5, x6, x7, x8))) ∨ (name = [77] ∧ lineA ls (x1, x2, x3, x4, x5, x6, x7, x8) (rg, cn, opr, [77], arg, text) k op = (screenP ls (x1, x2) x4 77 k, (x1, x2, x3, x4, x5, x6, x7, x8))) ∨ (name = [76] ∧ lineA ls (x1, x2, x3, x4, x5, x6, x7, x8) (rg, cn, opr, [76], arg, text) k op = (screenP ls (x1, x2) x4 76 k, (x1, x2, x3, x4, x5, x6, x7, x8))) ∨ (name = [125] ∧ lineA ls (x1, x2, x3, x4, x5, x6, x7, x8) (rg, cn, opr, [125], arg, text) k op = (parNextP ls (x1, x2) k op, (x1, x2, x3, x4, x5, x6, x7, x8))) ∨ (name = [123] ∧ lineA ls (x1, x2, x3, x4, x5, x6, x7, x8) (rg, cn, opr, [123], arg, text) k op = (parBackP ls (x1, x2) k, (x1, x2, x3, x4, x5, x6, x7, x8))) ∨ (name = [41] ∧ lineA ls (x1, x2, x3, x4, x5, x6, x7, x8) (rg, cn, opr, [41], arg, text) k op = (sentNextP ls (x1, x2) k op, (x1, x2, x3, x4, x5, x6, x7, x8))) ∨ (name = [40] ∧ lineA ls (x1, x2, x3, x4, x5, x6, x7, x8) (rg, cn, opr, [40], arg, text) k op = (sentBackP ls (x1, x2) k, (x1, x2, x3, x4, x5, x6, x7, x8))) ∨ (name = [37] ∧ lineA ls (x1, x2, x3, x4, x5, x6, x7, x8) (rg, cn, opr, [37], arg, text) k op = (matchP ls (x1, x2), (x1, x2, x3, x4, x5, x6, x7, x8))) ∨ (name = [110] ∧ lineA ls (x1, x2, x3, x4, x5, x6, x7, x8) (rg, cn, opr, [110], arg, text) k op = (searchP ls (x1, x2) x7 x8 k, (x1, x2, x3, x4, x5, x6, x7, x8))) ∨ (name = [78] ∧ lineA ls (x1, x2, x3, x4, x5, x6, x7, x8) (rg, cn, opr, [78], arg, text) k op = (searchP ls (x1, x2) x7 (!x8) k, (x1, x2, x3, x4, x5, x6, x7, x8)))) :
    CallsR Tryz.prog 26 [.sl 1 (ls.map .str), .ptr 0 8 1 0 0, .agg (aCm (rg, cn, opr, name, arg, text)), .bool op, .ptr 1 2 1 0 0] (cxR (x1, x2, x3, x4, x5, x6, x7, x8) n ps)
      (aMove (lineA ls (x1, x2, x3, x4, x5, x6, x7, x8) (rg, cn, opr, name, arg, text) k op).1) (cxR (lineA ls (x1, x2, x3, x4, x5, x6, x7, x8) (rg, cn, opr, name, arg, text) k op).2 n ps) := by
  refine callsR_of (mrg := true) (dyn := [1, 21, 84]) (CtrOK.cons ok_RLeft (CtrOK.cons ok_RRight (CtrOK.cons ok_RZero (CtrOK.cons ok_RFirstOf (CtrOK.cons ok_RLast (CtrOK.cons ok_RColumn (CtrOK.cons ok_RSeek (CtrOK.cons ok_opposite (CtrOK.cons ok_RNext (CtrOK.cons ok_RBack (CtrOK.cons ok_RTail (CtrOK.cons ok_RBackTail (CtrOK.cons ok_RVertical (CtrOK.cons ok_RPlus (CtrOK.cons ok_RMinus (CtrOK.cons ok_RUnder (CtrOK.cons ok_RGoto (CtrOK.cons ok_RScreen (CtrOK.cons ok_RParaNext (CtrOK.cons ok_RParaBack (CtrOK.cons ok_RSentNext (CtrOK.cons ok_RSentBack (CtrOK.cons ok_RMatch (CtrOK.cons ok_RSearch (CtrOK.cons ok_RWord (CtrOK.cons ok_Get13 (CtrOK.cons ok_RClampD (CtrOK.cons ok_RFirst (CtrOK.nil _))))))))))))))))))))))))))))) mixed Tryz.func26 rfl (by simp [Tryz.ntmps26]) (by kernel_rfl) ?_
  rw [show Tryz.f26.results.toList = [.cell 10 49, .tmp 11] from by kernel_rfl]
  rcases D with ⟨rfl, hL⟩ | ⟨rfl, hL⟩ | ⟨rfl, hL⟩ | ⟨rfl, hL⟩ | ⟨rfl, hL⟩ | ⟨rfl, hL⟩ | ⟨rfl, hL⟩ | ⟨rfl, hL⟩ | ⟨rfl, hL⟩ | ⟨rfl, hL⟩ | ⟨rfl, hL⟩
  all_goals
    rw [hL]
    try simp only [search_eq]
    have D1 : (decide (cn < 0) = true ∧ k = cn ∧ decide (cn < 0) = true) ∨ (decide (cn < 0) = false ∧ k = k ∧ max cn 1 = k) := by
      rcases D0 with ⟨a, b⟩ | ⟨a, b⟩
      · exact .inl ⟨a, b, a⟩
      · exact .inr ⟨a, rfl, b⟩
    clear D0
    rcases D1 with ⟨c1, c2, c3⟩ | ⟨c1, c2, c3⟩
    all_goals try subst c2
    all_goals
      simp (maxSteps := 4000000) only [go_sem, Nat.reduceAdd, reduceCtorEq, Nat.reduceEqDiff, Nat.reduceLT, Int.reduceToNat, Int.reduceLE, Int.reduceLT, UInt8.reduceOfNat, Nat.reduceBEq, Nat.reduceLeDiff, tk3, tk4, tk9, tk25, tz25, dz25, tk29, dz29, tk44, dz44, tk49, tz49, dz49, kMvN, kMvNB, kMv0, kSeek, kOpposite, kNext, kBackS, kTail, kBackE, kRVert, kRScreen, kRSearch, kWord, kGet13, kClampD, kFirst, aPos, aMove, aMv, byteA, UInt8.reduceToNat, cons_beq8, cons_nil8, nil_cons8, beqT, beqF, Bool.not_not, c1, c3, pureB_aPs]
      (repeat' first | exact hf | exact hk | exact h7 | exact ⟨hf, hk⟩ | (show dynOrd _ _ = true; kernel_rfl) | exact subX_eq rfl rfl | exact subX_eq rfl (pureB_bytes _) | exact subX_eq rfl (pureB_aPs _) | exact trivial | apply And.intro | rfl | omega | apply subX_one)
      all_goals try simp (maxSteps := 4000000) only [go_sem, Nat.reduceAdd, reduceIte, reduceCtorEq, Nat.reduceEqDiff, Nat.reduceLT, Nat.reduceSub, Nat.reduceMul, Int.reduceToNat, Int.reduceLE, Int.reduceLT, UInt8.reduceOfNat, Nat.reduceBEq, Int.reduceBEq, Int.reduceBNe, Nat.reduceBNe, Nat.reducePow, Nat.reduceLeDiff, tk3, tz3, dz3, eb3, eq3, tk4, tz4, dz4, eb4, eq4, tk5, tz5, dz5, eb5, eq5, tk9, tz9, dz9, eb9, eq9, tk22, tz22, dz22, eb22, tk25, tz25, dz25, eb25, eq25, tk29, tz29, dz29, eb29, eq29, tk36, tz36, dz36, pt36, tk44, tz44, dz44, eb44, eq44, tk49, tz49, dz49, eb49, eq49]
end Go.Pg
