/- A motion by its name: by paragraphs, sentences, brackets; by lines. A motion by its name: by lines. -/
import Derived.Test.YtkkcfkggfpoagaaGreatPgBs
import Derived.Test.YtkkcfkggfpoagaaGreatPgFx8
set_option linter.unusedVariables false
set_option linter.unusedSimpArgs false
namespace Go.Pg
open Go Go.Proofs

theorem lq125__123 : (([125] : List UInt8) == [123]) = false := rfl
theorem lq40__123 : (([40] : List UInt8) == [123]) = false := rfl
theorem lq40__125 : (([40] : List UInt8) == [125]) = false := rfl
theorem lq41__123 : (([41] : List UInt8) == [123]) = false := rfl
theorem lq41__125 : (([41] : List UInt8) == [125]) = false := rfl
theorem lq41__40 : (([41] : List UInt8) == [40]) = false := rfl
theorem lq37__123 : (([37] : List UInt8) == [123]) = false := rfl
theorem lq37__125 : (([37] : List UInt8) == [125]) = false := rfl
theorem lq37__40 : (([37] : List UInt8) == [40]) = false := rfl
theorem lq37__41 : (([37] : List UInt8) == [41]) = false := rfl
def textA (ls : Ls) (x : Cx) (c : Cm) (n : Int) (op : Bool) : Res :=
  if c.2.2.2.1 = [123] then (parBackP ls (curOf x) n, x)
  else   if c.2.2.2.1 = [125] then (parNextP ls (curOf x) n op, x)
  else   if c.2.2.2.1 = [40] then (sentBackP ls (curOf x) n, x)
  else   if c.2.2.2.1 = [41] then (sentNextP ls (curOf x) n op, x)
  else   if c.2.2.2.1 = [37] then (matchP ls (curOf x), x)
  else searchA ls x c.2.2.2.1 c.2.2.2.2.2 n

set_option maxRecDepth 20000 in
set_option maxHeartbeats 8000000 in
theorem calls_textA (ls : Ls) (x : Cx) (c : Cm) (n : Int) (op : Bool) (hf : okText ls) (hn : n ≤ 9223372036854775807) (hcn : c.2.1 ≤ 9223372036854775807) : CallsR Tryz.prog 117 [aAsk ls c n op] (cxH x) (aMove (textA ls x c n op).1) (cxH (textA ls x c n op).2) := by
  refine callsR_of (mrg := true) (dyn := [1]) (CtrOK.cons ok_ParBack (CtrOK.cons ok_ParNext (CtrOK.cons ok_SentBack (CtrOK.cons ok_SentNext (CtrOK.cons ok_Match (CtrOK.cons ok_search (CtrOK.nil _))))))) mixed Tryz.func117 rfl (by simp [Tryz.ntmps117]) (by kernel_rfl) ?_
  rw [show Tryz.f117.results.toList = [.cell 2 49, .tmp 3] from by kernel_rfl]
  have hll := hf.1
  obtain ⟨x1, x2, w, t, ky, kc, fd, bk⟩ := x
  obtain ⟨rg, cn, opr, name, arg, text⟩ := c
  unfold textA curOf
  dsimp only
  by_cases h123 : name = [123]
  · subst h123
    rw [if_pos (by decide)]
    simp (maxSteps := 4000000) only [go_sem, Nat.reduceAdd, reduceCtorEq, Nat.reduceEqDiff, Nat.reduceBEq, Nat.reduceLeDiff, tk3, tk9, tk22, tk25, tz25, dz25, tk27, dz27, tk29, tk49, tz49, dz49, tk52, tk68, dz68, kMvN, kMv0, kMvNB, aMove, aMv, kSearchA]
    (repeat' first | exact hf | exact hn | exact ⟨hf, hn⟩ | (show dynOrd _ _ = true; kernel_rfl) | exact subX_eq rfl rfl | exact trivial | apply And.intro | rfl | omega)
  by_cases h125 : name = [125]
  · subst h125
    rw [if_neg (by decide), if_pos (by decide)]
    simp (maxSteps := 4000000) only [go_sem, Nat.reduceAdd, reduceCtorEq, Nat.reduceEqDiff, Nat.reduceBEq, Nat.reduceLeDiff, tk3, tk4, tk9, tk22, tk25, tz25, dz25, tk27, dz27, tk29, tk49, tz49, dz49, tk52, tk68, dz68, kMvN, kMv0, kMvNB, aMove, aMv, kSearchA, lq125__123]
    (repeat' first | exact hf | exact hn | exact ⟨hf, hn⟩ | (show dynOrd _ _ = true; kernel_rfl) | exact subX_eq rfl rfl | exact trivial | apply And.intro | rfl | omega)
  by_cases h40 : name = [40]
  · subst h40
    rw [if_neg (by decide), if_neg (by decide), if_pos (by decide)]
    simp (maxSteps := 4000000) only [go_sem, Nat.reduceAdd, reduceCtorEq, Nat.reduceEqDiff, Nat.reduceBEq, Nat.reduceLeDiff, tk3, tk9, tk22, tk25, tz25, dz25, tk27, dz27, tk29, tk49, tz49, dz49, tk52, tk68, dz68, kMvN, kMv0, kMvNB, aMove, aMv, kSearchA, lq40__123, lq40__125]
    (repeat' first | exact hf | exact hn | exact ⟨hf, hn⟩ | (show dynOrd _ _ = true; kernel_rfl) | exact subX_eq rfl rfl | exact trivial | apply And.intro | rfl | omega)
  by_cases h41 : name = [41]
  · subst h41
    rw [if_neg (by decide), if_neg (by decide), if_neg (by decide), if_pos (by decide)]
    simp (maxSteps := 4000000) only [go_sem, Nat.reduceAdd, reduceCtorEq, Nat.reduceEqDiff, Nat.reduceBEq, Nat.reduceLeDiff, tk3, tk4, tk9, tk22, tk25, tz25, dz25, tk27, dz27, tk29, tk49, tz49, dz49, tk52, tk68, dz68, kMvN, kMv0, kMvNB, aMove, aMv, kSearchA, lq41__123, lq41__125, lq41__40]
    (repeat' first | exact hf | exact hn | exact ⟨hf, hn⟩ | (show dynOrd _ _ = true; kernel_rfl) | exact subX_eq rfl rfl | exact trivial | apply And.intro | rfl | omega)
  by_cases h37 : name = [37]
  · subst h37
    rw [if_neg (by decide), if_neg (by decide), if_neg (by decide), if_neg (by decide), if_pos (by decide)]
    simp (maxSteps := 4000000) only [go_sem, Nat.reduceAdd, reduceCtorEq, Nat.reduceEqDiff, Nat.reduceBEq, Nat.reduceLeDiff, tk3, tk9, tk22, tk25, tz25, dz25, tk27, dz27, tk29, tk49, tz49, dz49, tk52, tk68, dz68, kMvN, kMv0, kMvNB, aMove, aMv, kSearchA, lq37__123, lq37__125, lq37__40, lq37__41]
    (repeat' first | exact hf | exact hn | exact ⟨hf, hn⟩ | (show dynOrd _ _ = true; kernel_rfl) | exact subX_eq rfl rfl | exact trivial | apply And.intro | rfl | omega)
  have e123 := str_ne h123
  have e125 := str_ne h125
  have e40 := str_ne h40
  have e41 := str_ne h41
  have e37 := str_ne h37
  rw [if_neg (h123)]
  rw [if_neg (h125)]
  rw [if_neg (h40)]
  rw [if_neg (h41)]
  rw [if_neg (h37)]
  simp (maxSteps := 4000000) only [go_sem, Nat.reduceAdd, reduceCtorEq, Nat.reduceEqDiff, Nat.reduceBEq, Nat.reduceLeDiff, tk3, tk9, tk22, tk25, tz25, dz25, tk27, dz27, tk29, tk49, tz49, dz49, tk52, tk68, dz68, kMvN, kMv0, kMvNB, aMove, aMv, kSearchA, e123, e125, e40, e41, e37]
  (repeat' first | exact hf | exact hn | exact ⟨hf, hn⟩ | (show dynOrd _ _ = true; kernel_rfl) | exact subX_eq rfl rfl | exact trivial | apply And.intro | rfl | omega)
def kTextA : C1 := C1.mby (hCons (hAgg lAskd) hNil) (fun d => okText d.1.1 ∧ d.1.2.2.2.2.2.2.2.2.1 ≤ 9223372036854775807 ∧ d.1.2.2.2.1 ≤ 9223372036854775807) (fun d => aMove (textA d.1.1 d.1.2.1 (d.1.2.2.1, d.1.2.2.2.1, d.1.2.2.2.2.1, d.1.2.2.2.2.2.1, d.1.2.2.2.2.2.2.1, d.1.2.2.2.2.2.2.2.1) d.1.2.2.2.2.2.2.2.2.1 d.1.2.2.2.2.2.2.2.2.2.1).1) (fun d => cxH (textA d.1.1 d.1.2.1 (d.1.2.2.1, d.1.2.2.2.1, d.1.2.2.2.2.1, d.1.2.2.2.2.2.1, d.1.2.2.2.2.2.2.1, d.1.2.2.2.2.2.2.2.1) d.1.2.2.2.2.2.2.2.2.1 d.1.2.2.2.2.2.2.2.2.2.1).2)
theorem ok_textA : C1OK Tryz.prog 117 kTextA := C1OK.mby (by kernel_rfl) (fun d h => calls_textA d.1.1 d.1.2.1 (d.1.2.2.1, d.1.2.2.2.1, d.1.2.2.2.2.1, d.1.2.2.2.2.2.1, d.1.2.2.2.2.2.2.1, d.1.2.2.2.2.2.2.2.1) d.1.2.2.2.2.2.2.2.2.1 d.1.2.2.2.2.2.2.2.2.2.1 h.1 h.2.1 h.2.2) (fun _ _ => Nat.le_refl _)
end Go.Pg
namespace Go.Pg
open Go Go.Proofs

def numF (cn none_ : Int) : Int := if cn = 0 then none_ else cn
set_option maxHeartbeats 4000000 in
theorem calls_number (ls : Ls) (x : Cx) (c : Cm) (n : Int) (op : Bool) (k : Int) : CallsR Tryz.prog 115 [aAsk ls c n op, .int .i64 k] (cxH x) (.int .i64 (numF c.2.1 k)) (cxH x) := by
  refine callsR_of (mrg := true) (dyn := []) (CtrOK.nil _) mixed Tryz.func115 rfl (by simp [Tryz.ntmps115]) (by kernel_rfl) ?_
  rw [show Tryz.f115.results.toList = [.tmp 4] from by kernel_rfl]
  obtain ⟨rg, cn, opr, name, arg, text⟩ := c
  unfold numF
  dsimp only
  by_cases h : cn = 0
  · have c1 : (cn == 0) = true := beq_iff_eq.2 h
    rw [if_pos h]
    simp (maxSteps := 4000000) only [go_sem, Nat.reduceAdd, reduceCtorEq, Nat.reduceEqDiff, tk3, tk29, tk68, dz68, c1]
    (repeat' first | (show dynOrd _ _ = true; kernel_rfl) | exact subX_eq rfl rfl | exact trivial | apply And.intro | rfl | omega)
  · have c1 : (cn == 0) = false := beq_eq_false_iff_ne.2 h
    rw [if_neg h]
    simp (maxSteps := 4000000) only [go_sem, Nat.reduceAdd, reduceCtorEq, Nat.reduceEqDiff, tk3, tk29, tk68, dz68, c1]
    (repeat' first | (show dynOrd _ _ = true; kernel_rfl) | exact subX_eq rfl rfl | exact trivial | apply And.intro | rfl | omega)
def kNumber : C1 := C1.mby (hCons (hAgg lAskd) (hCons (hP .id (cInt .i64)) hNil)) (fun _ => True) (fun d => .int .i64 (numF d.1.2.2.2.1 d.2.1)) (fun d => cxH d.1.2.1)
theorem ok_number : C1OK Tryz.prog 115 kNumber := C1OK.mby (by kernel_rfl) (fun d _ => calls_number d.1.1 d.1.2.1 (d.1.2.2.1, d.1.2.2.2.1, d.1.2.2.2.2.1, d.1.2.2.2.2.2.1, d.1.2.2.2.2.2.2.1, d.1.2.2.2.2.2.2.2.1) d.1.2.2.2.2.2.2.2.2.1 d.1.2.2.2.2.2.2.2.2.2.1 d.2.1) (fun _ _ => Nat.le_refl _)
theorem numF_le {cn k : Int} (h1 : cn ≤ 9223372036854775807) (h2 : k ≤ 9223372036854775807) : numF cn k ≤ 9223372036854775807 := by unfold numF; split <;> assumption

theorem lq107__106 : (([107] : List UInt8) == [106]) = false := rfl
theorem lq43__106 : (([43] : List UInt8) == [106]) = false := rfl
theorem lq43__107 : (([43] : List UInt8) == [107]) = false := rfl
theorem lq45__106 : (([45] : List UInt8) == [106]) = false := rfl
theorem lq45__107 : (([45] : List UInt8) == [107]) = false := rfl
theorem lq45__43 : (([45] : List UInt8) == [43]) = false := rfl
theorem lq95__106 : (([95] : List UInt8) == [106]) = false := rfl
theorem lq95__107 : (([95] : List UInt8) == [107]) = false := rfl
theorem lq95__43 : (([95] : List UInt8) == [43]) = false := rfl
theorem lq95__45 : (([95] : List UInt8) == [45]) = false := rfl
theorem lq71__106 : (([71] : List UInt8) == [106]) = false := rfl
theorem lq71__107 : (([71] : List UInt8) == [107]) = false := rfl
theorem lq71__43 : (([71] : List UInt8) == [43]) = false := rfl
theorem lq71__45 : (([71] : List UInt8) == [45]) = false := rfl
theorem lq71__95 : (([71] : List UInt8) == [95]) = false := rfl
theorem lq103_103__106 : (([103, 103] : List UInt8) == [106]) = false := rfl
theorem lq103_103__107 : (([103, 103] : List UInt8) == [107]) = false := rfl
theorem lq103_103__43 : (([103, 103] : List UInt8) == [43]) = false := rfl
theorem lq103_103__45 : (([103, 103] : List UInt8) == [45]) = false := rfl
theorem lq103_103__95 : (([103, 103] : List UInt8) == [95]) = false := rfl
theorem lq103_103__71 : (([103, 103] : List UInt8) == [71]) = false := rfl
theorem lq72__106 : (([72] : List UInt8) == [106]) = false := rfl
theorem lq72__107 : (([72] : List UInt8) == [107]) = false := rfl
theorem lq72__43 : (([72] : List UInt8) == [43]) = false := rfl
theorem lq72__45 : (([72] : List UInt8) == [45]) = false := rfl
theorem lq72__95 : (([72] : List UInt8) == [95]) = false := rfl
theorem lq72__71 : (([72] : List UInt8) == [71]) = false := rfl
theorem lq72__103_103 : (([72] : List UInt8) == [103, 103]) = false := rfl
theorem lq77__106 : (([77] : List UInt8) == [106]) = false := rfl
theorem lq77__107 : (([77] : List UInt8) == [107]) = false := rfl
theorem lq77__43 : (([77] : List UInt8) == [43]) = false := rfl
theorem lq77__45 : (([77] : List UInt8) == [45]) = false := rfl
theorem lq77__95 : (([77] : List UInt8) == [95]) = false := rfl
theorem lq77__71 : (([77] : List UInt8) == [71]) = false := rfl
theorem lq77__103_103 : (([77] : List UInt8) == [103, 103]) = false := rfl
theorem lq77__72 : (([77] : List UInt8) == [72]) = false := rfl
theorem lq76__106 : (([76] : List UInt8) == [106]) = false := rfl
theorem lq76__107 : (([76] : List UInt8) == [107]) = false := rfl
theorem lq76__43 : (([76] : List UInt8) == [43]) = false := rfl
theorem lq76__45 : (([76] : List UInt8) == [45]) = false := rfl
theorem lq76__95 : (([76] : List UInt8) == [95]) = false := rfl
theorem lq76__71 : (([76] : List UInt8) == [71]) = false := rfl
theorem lq76__103_103 : (([76] : List UInt8) == [103, 103]) = false := rfl
theorem lq76__72 : (([76] : List UInt8) == [72]) = false := rfl
theorem lq76__77 : (([76] : List UInt8) == [77]) = false := rfl
def vertA (ls : Ls) (x : Cx) (c : Cm) (n : Int) (op : Bool) : Res :=
  if c.2.2.2.1 = [106] then (vertP ls (curOf x) n x.2.2.1 false, x)
  else   if c.2.2.2.1 = [107] then (vertP ls (curOf x) n x.2.2.1 true, x)
  else   if c.2.2.2.1 = [43] then (plusP ls (curOf x) n, x)
  else   if c.2.2.2.1 = [45] then (minusP ls (curOf x) n, x)
  else   if c.2.2.2.1 = [95] then (underP ls (curOf x) n, x)
  else   if c.2.2.2.1 = [71] then (gotoP ls (curOf x) (numF c.2.1 ls.length), x)
  else   if c.2.2.2.1 = [103, 103] then (gotoP ls (curOf x) (numF c.2.1 1), x)
  else   if c.2.2.2.1 = [72] then (screenP ls (curOf x) x.2.2.2.1 72 n, x)
  else   if c.2.2.2.1 = [77] then (screenP ls (curOf x) x.2.2.2.1 77 n, x)
  else   if c.2.2.2.1 = [76] then (screenP ls (curOf x) x.2.2.2.1 76 n, x)
  else textA ls x c n op

set_option maxRecDepth 20000 in
set_option maxHeartbeats 8000000 in
theorem calls_vertA (ls : Ls) (x : Cx) (c : Cm) (n : Int) (op : Bool) (hf : okText ls) (hn : n ≤ 9223372036854775807) (hcn : c.2.1 ≤ 9223372036854775807) : CallsR Tryz.prog 82 [aAsk ls c n op] (cxH x) (aMove (vertA ls x c n op).1) (cxH (vertA ls x c n op).2) := by
  refine callsR_of (mrg := true) (dyn := [1, 14, 16]) (CtrOK.cons ok_Down (CtrOK.cons ok_Up (CtrOK.cons ok_Plus (CtrOK.cons ok_Minus (CtrOK.cons ok_Under (CtrOK.cons ok_Goto (CtrOK.cons ok_Screen (CtrOK.cons ok_number (CtrOK.cons ok_textA (CtrOK.nil _)))))))))) mixed Tryz.func82 rfl (by simp [Tryz.ntmps82]) (by kernel_rfl) ?_
  rw [show Tryz.f82.results.toList = [.cell 2 49, .tmp 3] from by kernel_rfl]
  have hll := hf.1
  obtain ⟨x1, x2, w, t, ky, kc, fd, bk⟩ := x
  obtain ⟨rg, cn, opr, name, arg, text⟩ := c
  unfold vertA curOf
  dsimp only
  by_cases h106 : name = [106]
  · subst h106
    rw [if_pos (by decide)]
    simp (maxSteps := 4000000) only [go_sem, Nat.reduceAdd, reduceCtorEq, Nat.reduceEqDiff, Nat.reduceBEq, Nat.reduceLeDiff, tk3, tk9, tk22, tk25, tz25, dz25, tk27, dz27, tk29, tk49, tz49, dz49, tk52, tk68, dz68, kMvN, kVert, kScreen, kNumber, aMove, aMv, kTextA]
    (repeat' first | exact hf | exact hn | exact ⟨hf, hn⟩ | exact numF_le hcn (by omega) | (show dynOrd _ _ = true; kernel_rfl) | exact subX_eq rfl rfl | exact trivial | apply And.intro | rfl | omega)
  by_cases h107 : name = [107]
  · subst h107
    rw [if_neg (by decide), if_pos (by decide)]
    simp (maxSteps := 4000000) only [go_sem, Nat.reduceAdd, reduceCtorEq, Nat.reduceEqDiff, Nat.reduceBEq, Nat.reduceLeDiff, tk3, tk9, tk22, tk25, tz25, dz25, tk27, dz27, tk29, tk49, tz49, dz49, tk52, tk68, dz68, kMvN, kVert, kScreen, kNumber, aMove, aMv, kTextA, lq107__106]
    (repeat' first | exact hf | exact hn | exact ⟨hf, hn⟩ | exact numF_le hcn (by omega) | (show dynOrd _ _ = true; kernel_rfl) | exact subX_eq rfl rfl | exact trivial | apply And.intro | rfl | omega)
  by_cases h43 : name = [43]
  · subst h43
    rw [if_neg (by decide), if_neg (by decide), if_pos (by decide)]
    simp (maxSteps := 4000000) only [go_sem, Nat.reduceAdd, reduceCtorEq, Nat.reduceEqDiff, Nat.reduceBEq, Nat.reduceLeDiff, tk3, tk9, tk22, tk25, tz25, dz25, tk27, dz27, tk29, tk49, tz49, dz49, tk52, tk68, dz68, kMvN, kVert, kScreen, kNumber, aMove, aMv, kTextA, lq43__106, lq43__107]
    (repeat' first | exact hf | exact hn | exact ⟨hf, hn⟩ | exact numF_le hcn (by omega) | (show dynOrd _ _ = true; kernel_rfl) | exact subX_eq rfl rfl | exact trivial | apply And.intro | rfl | omega)
  by_cases h45 : name = [45]
  · subst h45
    rw [if_neg (by decide), if_neg (by decide), if_neg (by decide), if_pos (by decide)]
    simp (maxSteps := 4000000) only [go_sem, Nat.reduceAdd, reduceCtorEq, Nat.reduceEqDiff, Nat.reduceBEq, Nat.reduceLeDiff, tk3, tk9, tk22, tk25, tz25, dz25, tk27, dz27, tk29, tk49, tz49, dz49, tk52, tk68, dz68, kMvN, kVert, kScreen, kNumber, aMove, aMv, kTextA, lq45__106, lq45__107, lq45__43]
    (repeat' first | exact hf | exact hn | exact ⟨hf, hn⟩ | exact numF_le hcn (by omega) | (show dynOrd _ _ = true; kernel_rfl) | exact subX_eq rfl rfl | exact trivial | apply And.intro | rfl | omega)
  by_cases h95 : name = [95]
  · subst h95
    rw [if_neg (by decide), if_neg (by decide), if_neg (by decide), if_neg (by decide), if_pos (by decide)]
    simp (maxSteps := 4000000) only [go_sem, Nat.reduceAdd, reduceCtorEq, Nat.reduceEqDiff, Nat.reduceBEq, Nat.reduceLeDiff, tk3, tk9, tk22, tk25, tz25, dz25, tk27, dz27, tk29, tk49, tz49, dz49, tk52, tk68, dz68, kMvN, kVert, kScreen, kNumber, aMove, aMv, kTextA, lq95__106, lq95__107, lq95__43, lq95__45]
    (repeat' first | exact hf | exact hn | exact ⟨hf, hn⟩ | exact numF_le hcn (by omega) | (show dynOrd _ _ = true; kernel_rfl) | exact subX_eq rfl rfl | exact trivial | apply And.intro | rfl | omega)
  by_cases h71 : name = [71]
  · subst h71
    rw [if_neg (by decide), if_neg (by decide), if_neg (by decide), if_neg (by decide), if_neg (by decide), if_pos (by decide)]
    simp (maxSteps := 4000000) only [go_sem, Nat.reduceAdd, reduceCtorEq, Nat.reduceEqDiff, Nat.reduceBEq, Nat.reduceLeDiff, tk3, tk9, tk22, tk25, tz25, dz25, tk27, dz27, tk29, tk49, tz49, dz49, tk52, tk68, dz68, kMvN, kVert, kScreen, kNumber, aMove, aMv, kTextA, lq71__106, lq71__107, lq71__43, lq71__45, lq71__95]
    (repeat' first | exact hf | exact hn | exact ⟨hf, hn⟩ | exact numF_le hcn (by omega) | (show dynOrd _ _ = true; kernel_rfl) | exact subX_eq rfl rfl | exact trivial | apply And.intro | rfl | omega)
  by_cases h103_103 : name = [103, 103]
  · subst h103_103
    rw [if_neg (by decide), if_neg (by decide), if_neg (by decide), if_neg (by decide), if_neg (by decide), if_neg (by decide), if_pos (by decide)]
    simp (maxSteps := 4000000) only [go_sem, Nat.reduceAdd, reduceCtorEq, Nat.reduceEqDiff, Nat.reduceBEq, Nat.reduceLeDiff, tk3, tk9, tk22, tk25, tz25, dz25, tk27, dz27, tk29, tk49, tz49, dz49, tk52, tk68, dz68, kMvN, kVert, kScreen, kNumber, aMove, aMv, kTextA, lq103_103__106, lq103_103__107, lq103_103__43, lq103_103__45, lq103_103__95, lq103_103__71]
    (repeat' first | exact hf | exact hn | exact ⟨hf, hn⟩ | exact numF_le hcn (by omega) | (show dynOrd _ _ = true; kernel_rfl) | exact subX_eq rfl rfl | exact trivial | apply And.intro | rfl | omega)
  by_cases h72 : name = [72]
  · subst h72
    rw [if_neg (by decide), if_neg (by decide), if_neg (by decide), if_neg (by decide), if_neg (by decide), if_neg (by decide), if_neg (by decide), if_pos (by decide)]
    simp (maxSteps := 4000000) only [go_sem, Nat.reduceAdd, reduceCtorEq, Nat.reduceEqDiff, Int.reduceToNat, Int.reduceLE, Nat.reduceBEq, Nat.reduceLeDiff, tk3, tk9, tk22, tk25, tz25, dz25, tk27, dz27, tk29, tk49, tz49, dz49, tk52, tk68, dz68, kMvN, kVert, kScreen, kNumber, aMove, aMv, kTextA, lq72__106, lq72__107, lq72__43, lq72__45, lq72__95, lq72__71, lq72__103_103]
    (repeat' first | exact hf | exact hn | exact ⟨hf, hn⟩ | exact numF_le hcn (by omega) | (show dynOrd _ _ = true; kernel_rfl) | exact subX_eq rfl rfl | exact trivial | apply And.intro | rfl | omega)
  by_cases h77 : name = [77]
  · subst h77
    rw [if_neg (by decide), if_neg (by decide), if_neg (by decide), if_neg (by decide), if_neg (by decide), if_neg (by decide), if_neg (by decide), if_neg (by decide), if_pos (by decide)]
    simp (maxSteps := 4000000) only [go_sem, Nat.reduceAdd, reduceCtorEq, Nat.reduceEqDiff, Int.reduceToNat, Int.reduceLE, Nat.reduceBEq, Nat.reduceLeDiff, tk3, tk9, tk22, tk25, tz25, dz25, tk27, dz27, tk29, tk49, tz49, dz49, tk52, tk68, dz68, kMvN, kVert, kScreen, kNumber, aMove, aMv, kTextA, lq77__106, lq77__107, lq77__43, lq77__45, lq77__95, lq77__71, lq77__103_103, lq77__72]
    (repeat' first | exact hf | exact hn | exact ⟨hf, hn⟩ | exact numF_le hcn (by omega) | (show dynOrd _ _ = true; kernel_rfl) | exact subX_eq rfl rfl | exact trivial | apply And.intro | rfl | omega)
  by_cases h76 : name = [76]
  · subst h76
    rw [if_neg (by decide), if_neg (by decide), if_neg (by decide), if_neg (by decide), if_neg (by decide), if_neg (by decide), if_neg (by decide), if_neg (by decide), if_neg (by decide), if_pos (by decide)]
    simp (maxSteps := 4000000) only [go_sem, Nat.reduceAdd, reduceCtorEq, Nat.reduceEqDiff, Int.reduceToNat, Int.reduceLE, Nat.reduceBEq, Nat.reduceLeDiff, tk3, tk9, tk22, tk25, tz25, dz25, tk27, dz27, tk29, tk49, tz49, dz49, tk52, tk68, dz68, kMvN, kVert, kScreen, kNumber, aMove, aMv, kTextA, lq76__106, lq76__107, lq76__43, lq76__45, lq76__95, lq76__71, lq76__103_103, lq76__72, lq76__77]
    (repeat' first | exact hf | exact hn | exact ⟨hf, hn⟩ | exact numF_le hcn (by omega) | (show dynOrd _ _ = true; kernel_rfl) | exact subX_eq rfl rfl | exact trivial | apply And.intro | rfl | omega)
  have e106 := str_ne h106
  have e107 := str_ne h107
  have e43 := str_ne h43
  have e45 := str_ne h45
  have e95 := str_ne h95
  have e71 := str_ne h71
  have e103_103 := str_ne h103_103
  have e72 := str_ne h72
  have e77 := str_ne h77
  have e76 := str_ne h76
  rw [if_neg (h106)]
  rw [if_neg (h107)]
  rw [if_neg (h43)]
  rw [if_neg (h45)]
  rw [if_neg (h95)]
  rw [if_neg (h71)]
  rw [if_neg (h103_103)]
  rw [if_neg (h72)]
  rw [if_neg (h77)]
  rw [if_neg (h76)]
  simp (maxSteps := 4000000) only [go_sem, Nat.reduceAdd, reduceCtorEq, Nat.reduceEqDiff, Nat.reduceBEq, Nat.reduceLeDiff, tk3, tk9, tk22, tk25, tz25, dz25, tk27, dz27, tk29, tk49, tz49, dz49, tk52, tk68, dz68, kMvN, kVert, kScreen, kNumber, aMove, aMv, kTextA, e106, e107, e43, e45, e95, e71, e103_103, e72, e77, e76]
  (repeat' first | exact hf | exact hn | exact ⟨hf, hn⟩ | exact numF_le hcn (by omega) | (show dynOrd _ _ = true; kernel_rfl) | exact subX_eq rfl rfl | exact trivial | apply And.intro | rfl | omega)
def kVertA : C1 := C1.mby (hCons (hAgg lAskd) hNil) (fun d => okText d.1.1 ∧ d.1.2.2.2.2.2.2.2.2.1 ≤ 9223372036854775807 ∧ d.1.2.2.2.1 ≤ 9223372036854775807) (fun d => aMove (vertA d.1.1 d.1.2.1 (d.1.2.2.1, d.1.2.2.2.1, d.1.2.2.2.2.1, d.1.2.2.2.2.2.1, d.1.2.2.2.2.2.2.1, d.1.2.2.2.2.2.2.2.1) d.1.2.2.2.2.2.2.2.2.1 d.1.2.2.2.2.2.2.2.2.2.1).1) (fun d => cxH (vertA d.1.1 d.1.2.1 (d.1.2.2.1, d.1.2.2.2.1, d.1.2.2.2.2.1, d.1.2.2.2.2.2.1, d.1.2.2.2.2.2.2.1, d.1.2.2.2.2.2.2.2.1) d.1.2.2.2.2.2.2.2.2.1 d.1.2.2.2.2.2.2.2.2.2.1).2)
theorem ok_vertA : C1OK Tryz.prog 82 kVertA := C1OK.mby (by kernel_rfl) (fun d h => calls_vertA d.1.1 d.1.2.1 (d.1.2.2.1, d.1.2.2.2.1, d.1.2.2.2.2.1, d.1.2.2.2.2.2.1, d.1.2.2.2.2.2.2.1, d.1.2.2.2.2.2.2.2.1) d.1.2.2.2.2.2.2.2.2.1 d.1.2.2.2.2.2.2.2.2.2.1 h.1 h.2.1 h.2.2) (fun _ _ => Nat.le_refl _)
end Go.Pg
