/- A motion by its name: by words, within a line. -/
import Derived.Test.YtkkcfkggfpoagaaGreatPgBs
import Derived.Test.YtkkcfkggfpoagaaGreatPgFx9
set_option linter.unusedVariables false
set_option linter.unusedSimpArgs false
namespace Go.Pg
open Go Go.Proofs

abbrev lMot : CdL (Ls × (Int × Int) × Int × Bool × Bool) := lCons cStrs (lCons cPos2 (lCons (cInt .i64) (lCons cBool (lOne cBool))))
abbrev lMot4 : CdL (Ls × (Int × Int) × Int × Bool) := lCons cStrs (lCons cPos2 (lCons (cInt .i64) (lOne cBool)))
def kNext : C1 := C1.by [.sl 1 [], .id, .id, .id, .id] lMot (fun d => fits 65536 65536 d.1 ∧ d.2.2.1 ≤ 9223372036854775807) (fun d => aMove (wNext d.1 d.2.1 d.2.2.1 d.2.2.2.1 d.2.2.2.2)) (fun _ => [])
def kTail : C1 := C1.by [.sl 1 [], .id, .id, .id, .id] lMot (fun d => fits 65536 65536 d.1 ∧ d.2.2.1 ≤ 9223372036854775807) (fun d => aMove (rTail d.1 d.2.1 d.2.2.1 d.2.2.2.1 d.2.2.2.2)) (fun _ => [])
def kBackS : C1 := C1.by [.sl 1 [], .id, .id, .id] lMot4 (fun d => fits 65536 65536 d.1) (fun d => aMove (wBackM d.1 d.2.1 d.2.2.1 true true d.2.2.2 0)) (fun _ => [])
def kBackE : C1 := C1.by [.sl 1 [], .id, .id, .id] lMot4 (fun d => fits 65536 65536 d.1) (fun d => aMove (wBackM d.1 d.2.1 d.2.2.1 false false d.2.2.2 1)) (fun _ => [])
theorem ok_Next : C1OK Tryz.prog 78 kNext := C1OK.by (by kernel_rfl) (fun d h => calls_Next d.1 d.2.1 d.2.2.1 d.2.2.2.1 d.2.2.2.2 h.1 h.2) (fun _ => rfl) (fun _ => rfl)
theorem ok_Tail : C1OK Tryz.prog 80 kTail := C1OK.by (by kernel_rfl) (fun d h => calls_Tail d.1 d.2.1 d.2.2.1 d.2.2.2.1 d.2.2.2.2 h.1 h.2) (fun _ => rfl) (fun _ => rfl)
theorem ok_WBack : C1OK Tryz.prog 79 kBackS := C1OK.by (by kernel_rfl) (fun d h => calls_WBack d.1 d.2.1 d.2.2.1 d.2.2.2 h) (fun _ => rfl) (fun _ => rfl)
theorem ok_WBackTail : C1OK Tryz.prog 81 kBackE := C1OK.by (by kernel_rfl) (fun d h => calls_WBackTail d.1 d.2.1 d.2.2.1 d.2.2.2 h) (fun _ => rfl) (fun _ => rfl)
theorem lq119__87 : (([119] : List UInt8) == [87]) = false := rfl
theorem lq87__119 : (([87] : List UInt8) == [119]) = false := rfl
theorem lq98__119 : (([98] : List UInt8) == [119]) = false := rfl
theorem lq98__87 : (([98] : List UInt8) == [87]) = false := rfl
theorem lq98__66 : (([98] : List UInt8) == [66]) = false := rfl
theorem lq66__119 : (([66] : List UInt8) == [119]) = false := rfl
theorem lq66__87 : (([66] : List UInt8) == [87]) = false := rfl
theorem lq66__98 : (([66] : List UInt8) == [98]) = false := rfl
theorem lq101__119 : (([101] : List UInt8) == [119]) = false := rfl
theorem lq101__87 : (([101] : List UInt8) == [87]) = false := rfl
theorem lq101__98 : (([101] : List UInt8) == [98]) = false := rfl
theorem lq101__66 : (([101] : List UInt8) == [66]) = false := rfl
theorem lq101__69 : (([101] : List UInt8) == [69]) = false := rfl
theorem lq69__119 : (([69] : List UInt8) == [119]) = false := rfl
theorem lq69__87 : (([69] : List UInt8) == [87]) = false := rfl
theorem lq69__98 : (([69] : List UInt8) == [98]) = false := rfl
theorem lq69__66 : (([69] : List UInt8) == [66]) = false := rfl
theorem lq69__101 : (([69] : List UInt8) == [101]) = false := rfl
theorem lq103_101__119 : (([103, 101] : List UInt8) == [119]) = false := rfl
theorem lq103_101__87 : (([103, 101] : List UInt8) == [87]) = false := rfl
theorem lq103_101__98 : (([103, 101] : List UInt8) == [98]) = false := rfl
theorem lq103_101__66 : (([103, 101] : List UInt8) == [66]) = false := rfl
theorem lq103_101__101 : (([103, 101] : List UInt8) == [101]) = false := rfl
theorem lq103_101__69 : (([103, 101] : List UInt8) == [69]) = false := rfl
theorem lq103_101__103_69 : (([103, 101] : List UInt8) == [103, 69]) = false := rfl
theorem lq103_69__119 : (([103, 69] : List UInt8) == [119]) = false := rfl
theorem lq103_69__87 : (([103, 69] : List UInt8) == [87]) = false := rfl
theorem lq103_69__98 : (([103, 69] : List UInt8) == [98]) = false := rfl
theorem lq103_69__66 : (([103, 69] : List UInt8) == [66]) = false := rfl
theorem lq103_69__101 : (([103, 69] : List UInt8) == [101]) = false := rfl
theorem lq103_69__69 : (([103, 69] : List UInt8) == [69]) = false := rfl
theorem lq103_69__103_101 : (([103, 69] : List UInt8) == [103, 101]) = false := rfl
def wordA (ls : Ls) (x : Cx) (c : Cm) (n : Int) (op : Bool) : Res :=
  if c.2.2.2.1 = [119] then (wNext ls (curOf x) n false op, x)
  else   if c.2.2.2.1 = [87] then (wNext ls (curOf x) n true op, x)
  else   if c.2.2.2.1 = [98] then (wBackM ls (curOf x) n true true false 0, x)
  else   if c.2.2.2.1 = [66] then (wBackM ls (curOf x) n true true true 0, x)
  else   if c.2.2.2.1 = [101] then (rTail ls (curOf x) n false false, x)
  else   if c.2.2.2.1 = [69] then (rTail ls (curOf x) n true false, x)
  else   if c.2.2.2.1 = [103, 101] then (wBackM ls (curOf x) n false false false 1, x)
  else   if c.2.2.2.1 = [103, 69] then (wBackM ls (curOf x) n false false true 1, x)
  else vertA ls x c n op

set_option maxRecDepth 20000 in
set_option maxHeartbeats 8000000 in
theorem calls_wordA (ls : Ls) (x : Cx) (c : Cm) (n : Int) (op : Bool) (hf : okText ls) (hn : n ≤ 9223372036854775807) (hcn : c.2.1 ≤ 9223372036854775807) : CallsR Tryz.prog 43 [aAsk ls c n op] (cxH x) (aMove (wordA ls x c n op).1) (cxH (wordA ls x c n op).2) := by
  refine callsR_of (mrg := true) (dyn := [1]) (CtrOK.cons ok_Next (CtrOK.cons ok_WBack (CtrOK.cons ok_Tail (CtrOK.cons ok_WBackTail (CtrOK.cons ok_vertA (CtrOK.nil _)))))) mixed Tryz.func43 rfl (by simp [Tryz.ntmps43]) (by kernel_rfl) ?_
  rw [show Tryz.f43.results.toList = [.cell 2 49, .tmp 3] from by kernel_rfl]
  have hll := hf.1
  obtain ⟨x1, x2, w, t, ky, kc, fd, bk⟩ := x
  obtain ⟨rg, cn, opr, name, arg, text⟩ := c
  unfold wordA curOf
  dsimp only
  by_cases h119 : name = [119]
  · subst h119
    rw [if_pos (by decide)]
    simp (maxSteps := 4000000) only [go_sem, Nat.reduceAdd, reduceCtorEq, Nat.reduceEqDiff, Nat.reduceBEq, Nat.reduceLeDiff, tk3, tk4, tk9, tk22, tk25, tz25, dz25, tk27, dz27, tk29, tk49, tz49, dz49, tk52, tk68, dz68, kNext, kTail, kBackS, kBackE, aMove, aMv, kVertA, lq119__87]
    (repeat' first | exact hf | exact hn | exact ⟨hf, hn⟩ | (show dynOrd _ _ = true; kernel_rfl) | exact subX_eq rfl rfl | exact trivial | apply And.intro | rfl | omega)
  by_cases h87 : name = [87]
  · subst h87
    rw [if_neg (by decide), if_pos (by decide)]
    simp (maxSteps := 4000000) only [go_sem, Nat.reduceAdd, reduceCtorEq, Nat.reduceEqDiff, Nat.reduceBEq, Nat.reduceLeDiff, tk3, tk4, tk9, tk22, tk25, tz25, dz25, tk27, dz27, tk29, tk49, tz49, dz49, tk52, tk68, dz68, kNext, kTail, kBackS, kBackE, aMove, aMv, kVertA, lq87__119]
    (repeat' first | exact hf | exact hn | exact ⟨hf, hn⟩ | (show dynOrd _ _ = true; kernel_rfl) | exact subX_eq rfl rfl | exact trivial | apply And.intro | rfl | omega)
  by_cases h98 : name = [98]
  · subst h98
    rw [if_neg (by decide), if_neg (by decide), if_pos (by decide)]
    simp (maxSteps := 4000000) only [go_sem, Nat.reduceAdd, reduceCtorEq, Nat.reduceEqDiff, Nat.reduceBEq, Nat.reduceLeDiff, tk3, tk9, tk22, tk25, tz25, dz25, tk27, dz27, tk29, tk49, tz49, dz49, tk52, tk68, dz68, kNext, kTail, kBackS, kBackE, aMove, aMv, kVertA, lq98__119, lq98__87, lq98__66]
    (repeat' first | exact hf | exact hn | exact ⟨hf, hn⟩ | (show dynOrd _ _ = true; kernel_rfl) | exact subX_eq rfl rfl | exact trivial | apply And.intro | rfl | omega)
  by_cases h66 : name = [66]
  · subst h66
    rw [if_neg (by decide), if_neg (by decide), if_neg (by decide), if_pos (by decide)]
    simp (maxSteps := 4000000) only [go_sem, Nat.reduceAdd, reduceCtorEq, Nat.reduceEqDiff, Nat.reduceBEq, Nat.reduceLeDiff, tk3, tk9, tk22, tk25, tz25, dz25, tk27, dz27, tk29, tk49, tz49, dz49, tk52, tk68, dz68, kNext, kTail, kBackS, kBackE, aMove, aMv, kVertA, lq66__119, lq66__87, lq66__98]
    (repeat' first | exact hf | exact hn | exact ⟨hf, hn⟩ | (show dynOrd _ _ = true; kernel_rfl) | exact subX_eq rfl rfl | exact trivial | apply And.intro | rfl | omega)
  by_cases h101 : name = [101]
  · subst h101
    rw [if_neg (by decide), if_neg (by decide), if_neg (by decide), if_neg (by decide), if_pos (by decide)]
    simp (maxSteps := 4000000) only [go_sem, Nat.reduceAdd, reduceCtorEq, Nat.reduceEqDiff, Nat.reduceBEq, Nat.reduceLeDiff, tk3, tk9, tk22, tk25, tz25, dz25, tk27, dz27, tk29, tk49, tz49, dz49, tk52, tk68, dz68, kNext, kTail, kBackS, kBackE, aMove, aMv, kVertA, lq101__119, lq101__87, lq101__98, lq101__66, lq101__69]
    (repeat' first | exact hf | exact hn | exact ⟨hf, hn⟩ | (show dynOrd _ _ = true; kernel_rfl) | exact subX_eq rfl rfl | exact trivial | apply And.intro | rfl | omega)
  by_cases h69 : name = [69]
  · subst h69
    rw [if_neg (by decide), if_neg (by decide), if_neg (by decide), if_neg (by decide), if_neg (by decide), if_pos (by decide)]
    simp (maxSteps := 4000000) only [go_sem, Nat.reduceAdd, reduceCtorEq, Nat.reduceEqDiff, Nat.reduceBEq, Nat.reduceLeDiff, tk3, tk9, tk22, tk25, tz25, dz25, tk27, dz27, tk29, tk49, tz49, dz49, tk52, tk68, dz68, kNext, kTail, kBackS, kBackE, aMove, aMv, kVertA, lq69__119, lq69__87, lq69__98, lq69__66, lq69__101]
    (repeat' first | exact hf | exact hn | exact ⟨hf, hn⟩ | (show dynOrd _ _ = true; kernel_rfl) | exact subX_eq rfl rfl | exact trivial | apply And.intro | rfl | omega)
  by_cases h103_101 : name = [103, 101]
  · subst h103_101
    rw [if_neg (by decide), if_neg (by decide), if_neg (by decide), if_neg (by decide), if_neg (by decide), if_neg (by decide), if_pos (by decide)]
    simp (maxSteps := 4000000) only [go_sem, Nat.reduceAdd, reduceCtorEq, Nat.reduceEqDiff, Nat.reduceBEq, Nat.reduceLeDiff, tk3, tk9, tk22, tk25, tz25, dz25, tk27, dz27, tk29, tk49, tz49, dz49, tk52, tk68, dz68, kNext, kTail, kBackS, kBackE, aMove, aMv, kVertA, lq103_101__119, lq103_101__87, lq103_101__98, lq103_101__66, lq103_101__101, lq103_101__69, lq103_101__103_69]
    (repeat' first | exact hf | exact hn | exact ⟨hf, hn⟩ | (show dynOrd _ _ = true; kernel_rfl) | exact subX_eq rfl rfl | exact trivial | apply And.intro | rfl | omega)
  by_cases h103_69 : name = [103, 69]
  · subst h103_69
    rw [if_neg (by decide), if_neg (by decide), if_neg (by decide), if_neg (by decide), if_neg (by decide), if_neg (by decide), if_neg (by decide), if_pos (by decide)]
    simp (maxSteps := 4000000) only [go_sem, Nat.reduceAdd, reduceCtorEq, Nat.reduceEqDiff, Nat.reduceBEq, Nat.reduceLeDiff, tk3, tk9, tk22, tk25, tz25, dz25, tk27, dz27, tk29, tk49, tz49, dz49, tk52, tk68, dz68, kNext, kTail, kBackS, kBackE, aMove, aMv, kVertA, lq103_69__119, lq103_69__87, lq103_69__98, lq103_69__66, lq103_69__101, lq103_69__69, lq103_69__103_101]
    (repeat' first | exact hf | exact hn | exact ⟨hf, hn⟩ | (show dynOrd _ _ = true; kernel_rfl) | exact subX_eq rfl rfl | exact trivial | apply And.intro | rfl | omega)
  have e119 := str_ne h119
  have e87 := str_ne h87
  have e98 := str_ne h98
  have e66 := str_ne h66
  have e101 := str_ne h101
  have e69 := str_ne h69
  have e103_101 := str_ne h103_101
  have e103_69 := str_ne h103_69
  rw [if_neg (h119)]
  rw [if_neg (h87)]
  rw [if_neg (h98)]
  rw [if_neg (h66)]
  rw [if_neg (h101)]
  rw [if_neg (h69)]
  rw [if_neg (h103_101)]
  rw [if_neg (h103_69)]
  simp (maxSteps := 4000000) only [go_sem, Nat.reduceAdd, reduceCtorEq, Nat.reduceEqDiff, Nat.reduceBEq, Nat.reduceLeDiff, tk3, tk9, tk22, tk25, tz25, dz25, tk27, dz27, tk29, tk49, tz49, dz49, tk52, tk68, dz68, kNext, kTail, kBackS, kBackE, aMove, aMv, kVertA, e119, e87, e98, e66, e101, e69, e103_101, e103_69]
  (repeat' first | exact hf | exact hn | exact ⟨hf, hn⟩ | (show dynOrd _ _ = true; kernel_rfl) | exact subX_eq rfl rfl | exact trivial | apply And.intro | rfl | omega)
def kWordA : C1 := C1.mby (hCons (hAgg lAskd) hNil) (fun d => okText d.1.1 ∧ d.1.2.2.2.2.2.2.2.2.1 ≤ 9223372036854775807 ∧ d.1.2.2.2.1 ≤ 9223372036854775807) (fun d => aMove (wordA d.1.1 d.1.2.1 (d.1.2.2.1, d.1.2.2.2.1, d.1.2.2.2.2.1, d.1.2.2.2.2.2.1, d.1.2.2.2.2.2.2.1, d.1.2.2.2.2.2.2.2.1) d.1.2.2.2.2.2.2.2.2.1 d.1.2.2.2.2.2.2.2.2.2.1).1) (fun d => cxH (wordA d.1.1 d.1.2.1 (d.1.2.2.1, d.1.2.2.2.1, d.1.2.2.2.2.1, d.1.2.2.2.2.2.1, d.1.2.2.2.2.2.2.1, d.1.2.2.2.2.2.2.2.1) d.1.2.2.2.2.2.2.2.2.1 d.1.2.2.2.2.2.2.2.2.2.1).2)
theorem ok_wordA : C1OK Tryz.prog 43 kWordA := C1OK.mby (by kernel_rfl) (fun d h => calls_wordA d.1.1 d.1.2.1 (d.1.2.2.1, d.1.2.2.2.1, d.1.2.2.2.2.1, d.1.2.2.2.2.2.1, d.1.2.2.2.2.2.2.1, d.1.2.2.2.2.2.2.2.1) d.1.2.2.2.2.2.2.2.2.1 d.1.2.2.2.2.2.2.2.2.2.1 h.1 h.2.1 h.2.2) (fun _ _ => Nat.le_refl _)

/-- The seeking key that goes the other way. -/
def otherK (k : UInt8) : UInt8 := if k = 102 then 70 else if k = 70 then 102 else if k = 116 then 84 else if k = 84 then 116 else 0
set_option maxHeartbeats 4000000 in
theorem calls_otherK (k : UInt8) : CallsR Tryz.prog 42 [byteA k] [] (byteA (otherK k)) [] := by
  refine callsR_of (mrg := true) (dyn := []) (CtrOK.nil _) mixed Tryz.func42 rfl (by simp [Tryz.ntmps42]) (by kernel_rfl) ?_
  rw [show Tryz.f42.results.toList = [.tmp 2] from by kernel_rfl]
  by_cases h102 : k = 102
  · subst h102
    rw [show otherK 102 = 70 by decide]
    simp (maxSteps := 4000000) only [go_sem, reduceCtorEq, Nat.reduceEqDiff, byteA, UInt8.reduceToNat]
    all_goals first | rfl | decide
  by_cases h70 : k = 70
  · subst h70
    rw [show otherK 70 = 102 by decide]
    simp (maxSteps := 4000000) only [go_sem, reduceCtorEq, Nat.reduceEqDiff, Int.reduceBEq, byteA, UInt8.reduceToNat]
    all_goals first | rfl | decide
  by_cases h116 : k = 116
  · subst h116
    rw [show otherK 116 = 84 by decide]
    simp (maxSteps := 4000000) only [go_sem, reduceCtorEq, Nat.reduceEqDiff, Int.reduceBEq, byteA, UInt8.reduceToNat]
    all_goals first | rfl | decide
  by_cases h84 : k = 84
  · subst h84
    rw [show otherK 84 = 116 by decide]
    simp (maxSteps := 4000000) only [go_sem, reduceCtorEq, Nat.reduceEqDiff, Int.reduceBEq, byteA, UInt8.reduceToNat]
    all_goals first | rfl | decide
  have e1 := byte_lit k 102 102 rfl h102
  have e2 := byte_lit k 70 70 rfl h70
  have e3 := byte_lit k 116 116 rfl h116
  have e4 := byte_lit k 84 84 rfl h84
  have e : otherK k = 0 := by unfold otherK; rw [if_neg h102, if_neg h70, if_neg h116, if_neg h84]
  rw [e]
  simp (maxSteps := 4000000) only [go_sem, reduceCtorEq, Nat.reduceEqDiff, byteA, UInt8.reduceToNat, e1, e2, e3, e4]
  all_goals first | rfl | decide
def kOtherK : C1 := C1.by [.id] (lOne cByte) (fun _ => True) (fun d => byteA (otherK d)) (fun _ => [])
theorem ok_otherK : C1OK Tryz.prog 42 kOtherK := C1OK.by (by kernel_rfl) (fun d _ => calls_otherK d) (fun _ => rfl) (fun _ => rfl)
def setKC (x : Cx) (k c : UInt8) : Cx := (x.1, x.2.1, x.2.2.1, x.2.2.2.1, k, c, x.2.2.2.2.2.2)
theorem lq108__104 : (([108] : List UInt8) == [104]) = false := rfl
theorem lq48__104 : (([48] : List UInt8) == [104]) = false := rfl
theorem lq48__108 : (([48] : List UInt8) == [108]) = false := rfl
theorem lq94__104 : (([94] : List UInt8) == [104]) = false := rfl
theorem lq94__108 : (([94] : List UInt8) == [108]) = false := rfl
theorem lq94__48 : (([94] : List UInt8) == [48]) = false := rfl
theorem lq36__104 : (([36] : List UInt8) == [104]) = false := rfl
theorem lq36__108 : (([36] : List UInt8) == [108]) = false := rfl
theorem lq36__48 : (([36] : List UInt8) == [48]) = false := rfl
theorem lq36__94 : (([36] : List UInt8) == [94]) = false := rfl
theorem lq124__104 : (([124] : List UInt8) == [104]) = false := rfl
theorem lq124__108 : (([124] : List UInt8) == [108]) = false := rfl
theorem lq124__48 : (([124] : List UInt8) == [48]) = false := rfl
theorem lq124__94 : (([124] : List UInt8) == [94]) = false := rfl
theorem lq124__36 : (([124] : List UInt8) == [36]) = false := rfl
theorem lq102__104 : (([102] : List UInt8) == [104]) = false := rfl
theorem lq102__108 : (([102] : List UInt8) == [108]) = false := rfl
theorem lq102__48 : (([102] : List UInt8) == [48]) = false := rfl
theorem lq102__94 : (([102] : List UInt8) == [94]) = false := rfl
theorem lq102__36 : (([102] : List UInt8) == [36]) = false := rfl
theorem lq102__124 : (([102] : List UInt8) == [124]) = false := rfl
theorem lq70__104 : (([70] : List UInt8) == [104]) = false := rfl
theorem lq70__108 : (([70] : List UInt8) == [108]) = false := rfl
theorem lq70__48 : (([70] : List UInt8) == [48]) = false := rfl
theorem lq70__94 : (([70] : List UInt8) == [94]) = false := rfl
theorem lq70__36 : (([70] : List UInt8) == [36]) = false := rfl
theorem lq70__124 : (([70] : List UInt8) == [124]) = false := rfl
theorem lq70__102 : (([70] : List UInt8) == [102]) = false := rfl
theorem lq116__104 : (([116] : List UInt8) == [104]) = false := rfl
theorem lq116__108 : (([116] : List UInt8) == [108]) = false := rfl
theorem lq116__48 : (([116] : List UInt8) == [48]) = false := rfl
theorem lq116__94 : (([116] : List UInt8) == [94]) = false := rfl
theorem lq116__36 : (([116] : List UInt8) == [36]) = false := rfl
theorem lq116__124 : (([116] : List UInt8) == [124]) = false := rfl
theorem lq116__102 : (([116] : List UInt8) == [102]) = false := rfl
theorem lq116__70 : (([116] : List UInt8) == [70]) = false := rfl
theorem lq84__104 : (([84] : List UInt8) == [104]) = false := rfl
theorem lq84__108 : (([84] : List UInt8) == [108]) = false := rfl
theorem lq84__48 : (([84] : List UInt8) == [48]) = false := rfl
theorem lq84__94 : (([84] : List UInt8) == [94]) = false := rfl
theorem lq84__36 : (([84] : List UInt8) == [36]) = false := rfl
theorem lq84__124 : (([84] : List UInt8) == [124]) = false := rfl
theorem lq84__102 : (([84] : List UInt8) == [102]) = false := rfl
theorem lq84__70 : (([84] : List UInt8) == [70]) = false := rfl
theorem lq84__116 : (([84] : List UInt8) == [116]) = false := rfl
theorem lq59__104 : (([59] : List UInt8) == [104]) = false := rfl
theorem lq59__108 : (([59] : List UInt8) == [108]) = false := rfl
theorem lq59__48 : (([59] : List UInt8) == [48]) = false := rfl
theorem lq59__94 : (([59] : List UInt8) == [94]) = false := rfl
theorem lq59__36 : (([59] : List UInt8) == [36]) = false := rfl
theorem lq59__124 : (([59] : List UInt8) == [124]) = false := rfl
theorem lq59__102 : (([59] : List UInt8) == [102]) = false := rfl
theorem lq59__70 : (([59] : List UInt8) == [70]) = false := rfl
theorem lq59__116 : (([59] : List UInt8) == [116]) = false := rfl
theorem lq59__84 : (([59] : List UInt8) == [84]) = false := rfl
theorem lq44__104 : (([44] : List UInt8) == [104]) = false := rfl
theorem lq44__108 : (([44] : List UInt8) == [108]) = false := rfl
theorem lq44__48 : (([44] : List UInt8) == [48]) = false := rfl
theorem lq44__94 : (([44] : List UInt8) == [94]) = false := rfl
theorem lq44__36 : (([44] : List UInt8) == [36]) = false := rfl
theorem lq44__124 : (([44] : List UInt8) == [124]) = false := rfl
theorem lq44__102 : (([44] : List UInt8) == [102]) = false := rfl
theorem lq44__70 : (([44] : List UInt8) == [70]) = false := rfl
theorem lq44__116 : (([44] : List UInt8) == [116]) = false := rfl
theorem lq44__84 : (([44] : List UInt8) == [84]) = false := rfl
theorem lq44__59 : (([44] : List UInt8) == [59]) = false := rfl
def lineA (ls : Ls) (x : Cx) (c : Cm) (n : Int) (op : Bool) : Res :=
  if c.2.2.2.1 = [104] then (leftP ls (curOf x) n, x)
  else   if c.2.2.2.1 = [108] then (rightP ls (curOf x) n op, x)
  else   if c.2.2.2.1 = [48] then (zeroP ls (curOf x), x)
  else   if c.2.2.2.1 = [94] then (firstP ls (curOf x), x)
  else   if c.2.2.2.1 = [36] then (lastP ls (curOf x) n, x)
  else   if c.2.2.2.1 = [124] then (colP ls (curOf x) n, x)
  else   if c.2.2.2.1 = [102] then (seekP ls (curOf x) 102 c.2.2.2.2.1 n, setKC x 102 c.2.2.2.2.1)
  else   if c.2.2.2.1 = [70] then (seekP ls (curOf x) 70 c.2.2.2.2.1 n, setKC x 70 c.2.2.2.2.1)
  else   if c.2.2.2.1 = [116] then (seekP ls (curOf x) 116 c.2.2.2.2.1 n, setKC x 116 c.2.2.2.2.1)
  else   if c.2.2.2.1 = [84] then (seekP ls (curOf x) 84 c.2.2.2.2.1 n, setKC x 84 c.2.2.2.2.1)
  else   if c.2.2.2.1 = [59] then (seekP ls (curOf x) x.2.2.2.2.1 x.2.2.2.2.2.1 n, x)
  else   if c.2.2.2.1 = [44] then (if x.2.2.2.2.1 = 0 then mNone else seekP ls (curOf x) (otherK x.2.2.2.2.1) x.2.2.2.2.2.1 n, x)
  else wordA ls x c n op

set_option maxRecDepth 20000 in
set_option maxHeartbeats 8000000 in
theorem calls_lineA (ls : Ls) (x : Cx) (c : Cm) (n : Int) (op : Bool) (hf : okText ls) (hn : n ≤ 9223372036854775807) (hcn : c.2.1 ≤ 9223372036854775807) : CallsR Tryz.prog 24 [aAsk ls c n op] (cxH x) (aMove (lineA ls x c n op).1) (cxH (lineA ls x c n op).2) := by
  refine callsR_of (mrg := true) (dyn := [1, 19]) (CtrOK.cons ok_Left (CtrOK.cons ok_Right (CtrOK.cons ok_Zero (CtrOK.cons ok_CFirst (CtrOK.cons ok_CLast (CtrOK.cons ok_Column (CtrOK.cons ok_Seek (CtrOK.cons ok_otherK (CtrOK.cons ok_wordA (CtrOK.nil _)))))))))) mixed Tryz.func24 rfl (by simp [Tryz.ntmps24]) (by kernel_rfl) ?_
  rw [show Tryz.f24.results.toList = [.cell 2 49, .tmp 3] from by kernel_rfl]
  have hll := hf.1
  obtain ⟨x1, x2, w, t, ky, kc, fd, bk⟩ := x
  obtain ⟨rg, cn, opr, name, arg, text⟩ := c
  unfold lineA curOf
  dsimp only
  by_cases h104 : name = [104]
  · subst h104
    rw [if_pos (by decide)]
    simp (maxSteps := 4000000) only [go_sem, Nat.reduceAdd, reduceCtorEq, Nat.reduceEqDiff, Nat.reduceBEq, Nat.reduceLeDiff, tk3, tk9, tk22, tk25, tz25, dz25, tk27, dz27, tk29, tk49, tz49, dz49, tk52, tk68, dz68, kMvN, kMv0, kMvNB, kSeek, kOtherK, aMove, aMv, kWordA]
    (repeat' first | exact hf | exact hn | exact ⟨hf, hn⟩ | (show dynOrd _ _ = true; kernel_rfl) | exact subX_eq rfl rfl | exact trivial | apply And.intro | rfl | omega)
  by_cases h108 : name = [108]
  · subst h108
    rw [if_neg (by decide), if_pos (by decide)]
    simp (maxSteps := 4000000) only [go_sem, Nat.reduceAdd, reduceCtorEq, Nat.reduceEqDiff, Nat.reduceBEq, Nat.reduceLeDiff, tk3, tk4, tk9, tk22, tk25, tz25, dz25, tk27, dz27, tk29, tk49, tz49, dz49, tk52, tk68, dz68, kMvN, kMv0, kMvNB, kSeek, kOtherK, aMove, aMv, kWordA, lq108__104]
    (repeat' first | exact hf | exact hn | exact ⟨hf, hn⟩ | (show dynOrd _ _ = true; kernel_rfl) | exact subX_eq rfl rfl | exact trivial | apply And.intro | rfl | omega)
  by_cases h48 : name = [48]
  · subst h48
    rw [if_neg (by decide), if_neg (by decide), if_pos (by decide)]
    simp (maxSteps := 4000000) only [go_sem, Nat.reduceAdd, reduceCtorEq, Nat.reduceEqDiff, Nat.reduceBEq, Nat.reduceLeDiff, tk3, tk9, tk22, tk25, tz25, dz25, tk27, dz27, tk29, tk49, tz49, dz49, tk52, tk68, dz68, kMvN, kMv0, kMvNB, kSeek, kOtherK, aMove, aMv, kWordA, lq48__104, lq48__108]
    (repeat' first | exact hf | exact hn | exact ⟨hf, hn⟩ | (show dynOrd _ _ = true; kernel_rfl) | exact subX_eq rfl rfl | exact trivial | apply And.intro | rfl | omega)
  by_cases h94 : name = [94]
  · subst h94
    rw [if_neg (by decide), if_neg (by decide), if_neg (by decide), if_pos (by decide)]
    simp (maxSteps := 4000000) only [go_sem, Nat.reduceAdd, reduceCtorEq, Nat.reduceEqDiff, Nat.reduceBEq, Nat.reduceLeDiff, tk3, tk9, tk22, tk25, tz25, dz25, tk27, dz27, tk29, tk49, tz49, dz49, tk52, tk68, dz68, kMvN, kMv0, kMvNB, kSeek, kOtherK, aMove, aMv, kWordA, lq94__104, lq94__108, lq94__48]
    (repeat' first | exact hf | exact hn | exact ⟨hf, hn⟩ | (show dynOrd _ _ = true; kernel_rfl) | exact subX_eq rfl rfl | exact trivial | apply And.intro | rfl | omega)
  by_cases h36 : name = [36]
  · subst h36
    rw [if_neg (by decide), if_neg (by decide), if_neg (by decide), if_neg (by decide), if_pos (by decide)]
    simp (maxSteps := 4000000) only [go_sem, Nat.reduceAdd, reduceCtorEq, Nat.reduceEqDiff, Nat.reduceBEq, Nat.reduceLeDiff, tk3, tk9, tk22, tk25, tz25, dz25, tk27, dz27, tk29, tk49, tz49, dz49, tk52, tk68, dz68, kMvN, kMv0, kMvNB, kSeek, kOtherK, aMove, aMv, kWordA, lq36__104, lq36__108, lq36__48, lq36__94]
    (repeat' first | exact hf | exact hn | exact ⟨hf, hn⟩ | (show dynOrd _ _ = true; kernel_rfl) | exact subX_eq rfl rfl | exact trivial | apply And.intro | rfl | omega)
  by_cases h124 : name = [124]
  · subst h124
    rw [if_neg (by decide), if_neg (by decide), if_neg (by decide), if_neg (by decide), if_neg (by decide), if_pos (by decide)]
    simp (maxSteps := 4000000) only [go_sem, Nat.reduceAdd, reduceCtorEq, Nat.reduceEqDiff, Nat.reduceBEq, Nat.reduceLeDiff, tk3, tk9, tk22, tk25, tz25, dz25, tk27, dz27, tk29, tk49, tz49, dz49, tk52, tk68, dz68, kMvN, kMv0, kMvNB, kSeek, kOtherK, aMove, aMv, kWordA, lq124__104, lq124__108, lq124__48, lq124__94, lq124__36]
    (repeat' first | exact hf | exact hn | exact ⟨hf, hn⟩ | (show dynOrd _ _ = true; kernel_rfl) | exact subX_eq rfl rfl | exact trivial | apply And.intro | rfl | omega)
  by_cases h102 : name = [102]
  · subst h102
    rw [if_neg (by decide), if_neg (by decide), if_neg (by decide), if_neg (by decide), if_neg (by decide), if_neg (by decide), if_pos (by decide)]
    simp (maxSteps := 4000000) only [go_sem, Nat.reduceAdd, reduceCtorEq, Nat.reduceEqDiff, Int.reduceToNat, Int.reduceLE, Nat.reduceBEq, Nat.reduceLeDiff, tk3, tk5, tk9, tk22, tk25, tz25, dz25, tk27, dz27, tk29, tk49, tz49, dz49, tk52, tk68, dz68, kMvN, kMv0, kMvNB, kSeek, kOtherK, setKC, aMove, aMv, kWordA, lq102__104, lq102__108, lq102__48, lq102__94, lq102__36, lq102__124]
    (repeat' first | exact hf | exact hn | exact ⟨hf, hn⟩ | (show dynOrd _ _ = true; kernel_rfl) | exact subX_eq rfl rfl | exact trivial | apply And.intro | rfl | omega)
  by_cases h70 : name = [70]
  · subst h70
    rw [if_neg (by decide), if_neg (by decide), if_neg (by decide), if_neg (by decide), if_neg (by decide), if_neg (by decide), if_neg (by decide), if_pos (by decide)]
    simp (maxSteps := 4000000) only [go_sem, Nat.reduceAdd, reduceCtorEq, Nat.reduceEqDiff, Int.reduceToNat, Int.reduceLE, Nat.reduceBEq, Nat.reduceLeDiff, tk3, tk5, tk9, tk22, tk25, tz25, dz25, tk27, dz27, tk29, tk49, tz49, dz49, tk52, tk68, dz68, kMvN, kMv0, kMvNB, kSeek, kOtherK, setKC, aMove, aMv, kWordA, lq70__104, lq70__108, lq70__48, lq70__94, lq70__36, lq70__124, lq70__102]
    (repeat' first | exact hf | exact hn | exact ⟨hf, hn⟩ | (show dynOrd _ _ = true; kernel_rfl) | exact subX_eq rfl rfl | exact trivial | apply And.intro | rfl | omega)
  by_cases h116 : name = [116]
  · subst h116
    rw [if_neg (by decide), if_neg (by decide), if_neg (by decide), if_neg (by decide), if_neg (by decide), if_neg (by decide), if_neg (by decide), if_neg (by decide), if_pos (by decide)]
    simp (maxSteps := 4000000) only [go_sem, Nat.reduceAdd, reduceCtorEq, Nat.reduceEqDiff, Int.reduceToNat, Int.reduceLE, Nat.reduceBEq, Nat.reduceLeDiff, tk3, tk5, tk9, tk22, tk25, tz25, dz25, tk27, dz27, tk29, tk49, tz49, dz49, tk52, tk68, dz68, kMvN, kMv0, kMvNB, kSeek, kOtherK, setKC, aMove, aMv, kWordA, lq116__104, lq116__108, lq116__48, lq116__94, lq116__36, lq116__124, lq116__102, lq116__70]
    (repeat' first | exact hf | exact hn | exact ⟨hf, hn⟩ | (show dynOrd _ _ = true; kernel_rfl) | exact subX_eq rfl rfl | exact trivial | apply And.intro | rfl | omega)
  by_cases h84 : name = [84]
  · subst h84
    rw [if_neg (by decide), if_neg (by decide), if_neg (by decide), if_neg (by decide), if_neg (by decide), if_neg (by decide), if_neg (by decide), if_neg (by decide), if_neg (by decide), if_pos (by decide)]
    simp (maxSteps := 4000000) only [go_sem, Nat.reduceAdd, reduceCtorEq, Nat.reduceEqDiff, Int.reduceToNat, Int.reduceLE, Nat.reduceBEq, Nat.reduceLeDiff, tk3, tk5, tk9, tk22, tk25, tz25, dz25, tk27, dz27, tk29, tk49, tz49, dz49, tk52, tk68, dz68, kMvN, kMv0, kMvNB, kSeek, kOtherK, setKC, aMove, aMv, kWordA, lq84__104, lq84__108, lq84__48, lq84__94, lq84__36, lq84__124, lq84__102, lq84__70, lq84__116]
    (repeat' first | exact hf | exact hn | exact ⟨hf, hn⟩ | (show dynOrd _ _ = true; kernel_rfl) | exact subX_eq rfl rfl | exact trivial | apply And.intro | rfl | omega)
  by_cases h59 : name = [59]
  · subst h59
    rw [if_neg (by decide), if_neg (by decide), if_neg (by decide), if_neg (by decide), if_neg (by decide), if_neg (by decide), if_neg (by decide), if_neg (by decide), if_neg (by decide), if_neg (by decide), if_pos (by decide)]
    simp (maxSteps := 4000000) only [go_sem, Nat.reduceAdd, reduceCtorEq, Nat.reduceEqDiff, Nat.reduceBEq, Nat.reduceLeDiff, tk3, tk5, tk9, tk22, tk25, tz25, dz25, tk27, dz27, tk29, tk49, tz49, dz49, tk52, tk68, dz68, kMvN, kMv0, kMvNB, kSeek, kOtherK, aMove, aMv, kWordA, lq59__104, lq59__108, lq59__48, lq59__94, lq59__36, lq59__124, lq59__102, lq59__70, lq59__116, lq59__84]
    (repeat' first | exact hf | exact hn | exact ⟨hf, hn⟩ | (show dynOrd _ _ = true; kernel_rfl) | exact subX_eq rfl rfl | exact trivial | apply And.intro | rfl | omega)
  by_cases h44 : name = [44]
  · subst h44
    rw [if_neg (by decide), if_neg (by decide), if_neg (by decide), if_neg (by decide), if_neg (by decide), if_neg (by decide), if_neg (by decide), if_neg (by decide), if_neg (by decide), if_neg (by decide), if_neg (by decide), if_pos (by decide)]
    by_cases hk : ky = 0
    · subst hk
      rw [if_pos rfl]
      simp (maxSteps := 4000000) only [go_sem, Nat.reduceAdd, reduceCtorEq, Nat.reduceEqDiff, Nat.reduceBEq, Nat.reduceLeDiff, tk3, tk5, tk9, tk22, tk25, tz25, dz25, tk27, dz27, tk29, tk49, tz49, dz49, tk52, tk68, dz68, kMvN, kMv0, kMvNB, kSeek, kOtherK, aMove, aMv, mNone, kWordA, lq44__104, lq44__108, lq44__48, lq44__94, lq44__36, lq44__124, lq44__102, lq44__70, lq44__116, lq44__84, lq44__59, byteA, UInt8.reduceToNat]
      (repeat' first | exact hf | exact hn | exact ⟨hf, hn⟩ | (show dynOrd _ _ = true; kernel_rfl) | exact subX_eq rfl rfl | exact trivial | apply And.intro | rfl | omega)
    · have ek : ((ky.toNat : Int) == 0) = false := byte_lit ky 0 0 rfl hk
      rw [if_neg hk]
      simp (maxSteps := 4000000) only [go_sem, Nat.reduceAdd, reduceCtorEq, Nat.reduceEqDiff, Nat.reduceBEq, Nat.reduceLeDiff, tk3, tk5, tk9, tk22, tk25, tz25, dz25, tk27, dz27, tk29, tk49, tz49, dz49, tk52, tk68, dz68, kMvN, kMv0, kMvNB, kSeek, kOtherK, aMove, aMv, kWordA, lq44__104, lq44__108, lq44__48, lq44__94, lq44__36, lq44__124, lq44__102, lq44__70, lq44__116, lq44__84, lq44__59, ek]
      (repeat' first | exact hf | exact hn | exact ⟨hf, hn⟩ | (show dynOrd _ _ = true; kernel_rfl) | exact subX_eq rfl rfl | exact trivial | apply And.intro | rfl | omega)
  have e104 := str_ne h104
  have e108 := str_ne h108
  have e48 := str_ne h48
  have e94 := str_ne h94
  have e36 := str_ne h36
  have e124 := str_ne h124
  have e102 := str_ne h102
  have e70 := str_ne h70
  have e116 := str_ne h116
  have e84 := str_ne h84
  have e59 := str_ne h59
  have e44 := str_ne h44
  rw [if_neg (h104)]
  rw [if_neg (h108)]
  rw [if_neg (h48)]
  rw [if_neg (h94)]
  rw [if_neg (h36)]
  rw [if_neg (h124)]
  rw [if_neg (h102)]
  rw [if_neg (h70)]
  rw [if_neg (h116)]
  rw [if_neg (h84)]
  rw [if_neg (h59)]
  rw [if_neg (h44)]
  simp (maxSteps := 4000000) only [go_sem, Nat.reduceAdd, reduceCtorEq, Nat.reduceEqDiff, Nat.reduceBEq, Nat.reduceLeDiff, tk3, tk9, tk22, tk25, tz25, dz25, tk27, dz27, tk29, tk49, tz49, dz49, tk52, tk68, dz68, kMvN, kMv0, kMvNB, kSeek, kOtherK, aMove, aMv, kWordA, e104, e108, e48, e94, e36, e124, e102, e70, e116, e84, e59, e44]
  (repeat' first | exact hf | exact hn | exact ⟨hf, hn⟩ | (show dynOrd _ _ = true; kernel_rfl) | exact subX_eq rfl rfl | exact trivial | apply And.intro | rfl | omega)
def kLineA : C1 := C1.mby (hCons (hAgg lAskd) hNil) (fun d => okText d.1.1 ∧ d.1.2.2.2.2.2.2.2.2.1 ≤ 9223372036854775807 ∧ d.1.2.2.2.1 ≤ 9223372036854775807) (fun d => aMove (lineA d.1.1 d.1.2.1 (d.1.2.2.1, d.1.2.2.2.1, d.1.2.2.2.2.1, d.1.2.2.2.2.2.1, d.1.2.2.2.2.2.2.1, d.1.2.2.2.2.2.2.2.1) d.1.2.2.2.2.2.2.2.2.1 d.1.2.2.2.2.2.2.2.2.2.1).1) (fun d => cxH (lineA d.1.1 d.1.2.1 (d.1.2.2.1, d.1.2.2.2.1, d.1.2.2.2.2.1, d.1.2.2.2.2.2.1, d.1.2.2.2.2.2.2.1, d.1.2.2.2.2.2.2.2.1) d.1.2.2.2.2.2.2.2.2.1 d.1.2.2.2.2.2.2.2.2.2.1).2)
theorem ok_lineA : C1OK Tryz.prog 24 kLineA := C1OK.mby (by kernel_rfl) (fun d h => calls_lineA d.1.1 d.1.2.1 (d.1.2.2.1, d.1.2.2.2.1, d.1.2.2.2.2.1, d.1.2.2.2.2.2.1, d.1.2.2.2.2.2.2.1, d.1.2.2.2.2.2.2.2.1) d.1.2.2.2.2.2.2.2.2.1 d.1.2.2.2.2.2.2.2.2.2.1 h.1 h.2.1 h.2.2) (fun _ _ => Nat.le_refl _)
end Go.Pg
