/- The document's motions, by their names. Motions, marks and all: the program's, the document's. -/
import Derived.Test.YtkkcfkggfpoagaaGreatPgBs
import Derived.Test.YtkkcfkggfpoagaaGreatPgFx21
import Derived.Test.YtkkcfkggfpoagaaGreatPgFx20
import Derived.Test.YtkkcfkggfpoagaaGreatPgFx19
import Derived.Test.YtkkcfkggfpoagaaGreatPgFx22
import Derived.Test.YtkkcfkggfpoagaaGreatPgFx11
set_option linter.unusedVariables false
set_option linter.unusedSimpArgs false
namespace Go.Pg
open Go Go.Proofs

def doL (ls : Ls) (x : Cx) (c : Cm) (op : Bool) (g : Option (Int × Int)) : Res :=
  if c.2.2.2.1 = [39] then (markP ls g true, x) else if c.2.2.2.1 = [96] then (markP ls g false, x) else lineA ls x c (cntF c.2.1) op
def doM (ls : Ls) (x : Cx) (c : Cm) (op : Bool) (g : Option (Int × Int)) : Res := (doFin ls op (doL ls x c op g).1, (doL ls x c op g).2)
theorem word_len (ls : Ls) (p : Int × Int) (hf : okText ls) : (wordP ls p).2.1.length ≤ 1099511627776 := by
  have h5 := fits_getD hf p.1.toNat
  unfold wordP
  split
  · unfold wordL
    split
    · dsimp only [wdB]
      unfold cutL
      rw [List.length_take, List.length_drop]
      omega
    · simp
  · simp
theorem lineA_0 (ls : Ls) (x1 x2 x3 x4 : Int) (x5 x6 : UInt8) (x7 : List UInt8) (x8 : Bool) (rg : UInt8) (cn : Int) (opr : List UInt8) (arg : UInt8) (text : List UInt8) (op : Bool) (k : Int) (_ : numF cn 1 = k) : lineA ls (x1, x2, x3, x4, x5, x6, x7, x8) (rg, cn, opr, [104], arg, text) k op = (leftP ls (x1, x2) k, (x1, x2, x3, x4, x5, x6, x7, x8)) := by
  simp [lineA, curOf]
theorem lineA_1 (ls : Ls) (x1 x2 x3 x4 : Int) (x5 x6 : UInt8) (x7 : List UInt8) (x8 : Bool) (rg : UInt8) (cn : Int) (opr : List UInt8) (arg : UInt8) (text : List UInt8) (op : Bool) (k : Int) (_ : numF cn 1 = k) : lineA ls (x1, x2, x3, x4, x5, x6, x7, x8) (rg, cn, opr, [108], arg, text) k op = (rightP ls (x1, x2) k op, (x1, x2, x3, x4, x5, x6, x7, x8)) := by
  simp [lineA, curOf]
theorem lineA_2 (ls : Ls) (x1 x2 x3 x4 : Int) (x5 x6 : UInt8) (x7 : List UInt8) (x8 : Bool) (rg : UInt8) (cn : Int) (opr : List UInt8) (arg : UInt8) (text : List UInt8) (op : Bool) (k : Int) (_ : numF cn 1 = k) : lineA ls (x1, x2, x3, x4, x5, x6, x7, x8) (rg, cn, opr, [48], arg, text) k op = (zeroP ls (x1, x2), (x1, x2, x3, x4, x5, x6, x7, x8)) := by
  simp [lineA, curOf]
theorem lineA_3 (ls : Ls) (x1 x2 x3 x4 : Int) (x5 x6 : UInt8) (x7 : List UInt8) (x8 : Bool) (rg : UInt8) (cn : Int) (opr : List UInt8) (arg : UInt8) (text : List UInt8) (op : Bool) (k : Int) (_ : numF cn 1 = k) : lineA ls (x1, x2, x3, x4, x5, x6, x7, x8) (rg, cn, opr, [94], arg, text) k op = (firstP ls (x1, x2), (x1, x2, x3, x4, x5, x6, x7, x8)) := by
  simp [lineA, curOf]
theorem lineA_4 (ls : Ls) (x1 x2 x3 x4 : Int) (x5 x6 : UInt8) (x7 : List UInt8) (x8 : Bool) (rg : UInt8) (cn : Int) (opr : List UInt8) (arg : UInt8) (text : List UInt8) (op : Bool) (k : Int) (_ : numF cn 1 = k) : lineA ls (x1, x2, x3, x4, x5, x6, x7, x8) (rg, cn, opr, [36], arg, text) k op = (lastP ls (x1, x2) k, (x1, x2, x3, x4, x5, x6, x7, x8)) := by
  simp [lineA, curOf]
theorem lineA_5 (ls : Ls) (x1 x2 x3 x4 : Int) (x5 x6 : UInt8) (x7 : List UInt8) (x8 : Bool) (rg : UInt8) (cn : Int) (opr : List UInt8) (arg : UInt8) (text : List UInt8) (op : Bool) (k : Int) (_ : numF cn 1 = k) : lineA ls (x1, x2, x3, x4, x5, x6, x7, x8) (rg, cn, opr, [124], arg, text) k op = (colP ls (x1, x2) k, (x1, x2, x3, x4, x5, x6, x7, x8)) := by
  simp [lineA, curOf]
theorem lineA_6 (ls : Ls) (x1 x2 x3 x4 : Int) (x5 x6 : UInt8) (x7 : List UInt8) (x8 : Bool) (rg : UInt8) (cn : Int) (opr : List UInt8) (arg : UInt8) (text : List UInt8) (op : Bool) (k : Int) (_ : numF cn 1 = k) : lineA ls (x1, x2, x3, x4, x5, x6, x7, x8) (rg, cn, opr, [59], arg, text) k op = (seekP ls (x1, x2) x5 x6 k, (x1, x2, x3, x4, x5, x6, x7, x8)) := by
  simp [lineA, curOf]
theorem lineA_7 (ls : Ls) (x1 x2 x3 x4 : Int) (x5 x6 : UInt8) (x7 : List UInt8) (x8 : Bool) (rg : UInt8) (cn : Int) (opr : List UInt8) (arg : UInt8) (text : List UInt8) (op : Bool) (k : Int) (_ : numF cn 1 = k) : lineA ls (x1, x2, x3, x4, x5, x6, x7, x8) (rg, cn, opr, [119], arg, text) k op = (wNext ls (x1, x2) k false op, (x1, x2, x3, x4, x5, x6, x7, x8)) := by
  simp [lineA, wordA, curOf]
theorem lineA_8 (ls : Ls) (x1 x2 x3 x4 : Int) (x5 x6 : UInt8) (x7 : List UInt8) (x8 : Bool) (rg : UInt8) (cn : Int) (opr : List UInt8) (arg : UInt8) (text : List UInt8) (op : Bool) (k : Int) (_ : numF cn 1 = k) : lineA ls (x1, x2, x3, x4, x5, x6, x7, x8) (rg, cn, opr, [87], arg, text) k op = (wNext ls (x1, x2) k true op, (x1, x2, x3, x4, x5, x6, x7, x8)) := by
  simp [lineA, wordA, curOf]
theorem lineA_9 (ls : Ls) (x1 x2 x3 x4 : Int) (x5 x6 : UInt8) (x7 : List UInt8) (x8 : Bool) (rg : UInt8) (cn : Int) (opr : List UInt8) (arg : UInt8) (text : List UInt8) (op : Bool) (k : Int) (_ : numF cn 1 = k) : lineA ls (x1, x2, x3, x4, x5, x6, x7, x8) (rg, cn, opr, [98], arg, text) k op = (wBackM ls (x1, x2) k true true false 0, (x1, x2, x3, x4, x5, x6, x7, x8)) := by
  simp [lineA, wordA, curOf]
theorem lineA_10 (ls : Ls) (x1 x2 x3 x4 : Int) (x5 x6 : UInt8) (x7 : List UInt8) (x8 : Bool) (rg : UInt8) (cn : Int) (opr : List UInt8) (arg : UInt8) (text : List UInt8) (op : Bool) (k : Int) (_ : numF cn 1 = k) : lineA ls (x1, x2, x3, x4, x5, x6, x7, x8) (rg, cn, opr, [66], arg, text) k op = (wBackM ls (x1, x2) k true true true 0, (x1, x2, x3, x4, x5, x6, x7, x8)) := by
  simp [lineA, wordA, curOf]
theorem lineA_11 (ls : Ls) (x1 x2 x3 x4 : Int) (x5 x6 : UInt8) (x7 : List UInt8) (x8 : Bool) (rg : UInt8) (cn : Int) (opr : List UInt8) (arg : UInt8) (text : List UInt8) (op : Bool) (k : Int) (_ : numF cn 1 = k) : lineA ls (x1, x2, x3, x4, x5, x6, x7, x8) (rg, cn, opr, [101], arg, text) k op = (rTail ls (x1, x2) k false false, (x1, x2, x3, x4, x5, x6, x7, x8)) := by
  simp [lineA, wordA, curOf]
theorem lineA_12 (ls : Ls) (x1 x2 x3 x4 : Int) (x5 x6 : UInt8) (x7 : List UInt8) (x8 : Bool) (rg : UInt8) (cn : Int) (opr : List UInt8) (arg : UInt8) (text : List UInt8) (op : Bool) (k : Int) (_ : numF cn 1 = k) : lineA ls (x1, x2, x3, x4, x5, x6, x7, x8) (rg, cn, opr, [69], arg, text) k op = (rTail ls (x1, x2) k true false, (x1, x2, x3, x4, x5, x6, x7, x8)) := by
  simp [lineA, wordA, curOf]
theorem lineA_13 (ls : Ls) (x1 x2 x3 x4 : Int) (x5 x6 : UInt8) (x7 : List UInt8) (x8 : Bool) (rg : UInt8) (cn : Int) (opr : List UInt8) (arg : UInt8) (text : List UInt8) (op : Bool) (k : Int) (_ : numF cn 1 = k) : lineA ls (x1, x2, x3, x4, x5, x6, x7, x8) (rg, cn, opr, [103, 101], arg, text) k op = (wBackM ls (x1, x2) k false false false 1, (x1, x2, x3, x4, x5, x6, x7, x8)) := by
  simp [lineA, wordA, curOf]
theorem lineA_14 (ls : Ls) (x1 x2 x3 x4 : Int) (x5 x6 : UInt8) (x7 : List UInt8) (x8 : Bool) (rg : UInt8) (cn : Int) (opr : List UInt8) (arg : UInt8) (text : List UInt8) (op : Bool) (k : Int) (_ : numF cn 1 = k) : lineA ls (x1, x2, x3, x4, x5, x6, x7, x8) (rg, cn, opr, [103, 69], arg, text) k op = (wBackM ls (x1, x2) k false false true 1, (x1, x2, x3, x4, x5, x6, x7, x8)) := by
  simp [lineA, wordA, curOf]
theorem lineA_15 (ls : Ls) (x1 x2 x3 x4 : Int) (x5 x6 : UInt8) (x7 : List UInt8) (x8 : Bool) (rg : UInt8) (cn : Int) (opr : List UInt8) (arg : UInt8) (text : List UInt8) (op : Bool) (k : Int) (_ : numF cn 1 = k) : lineA ls (x1, x2, x3, x4, x5, x6, x7, x8) (rg, cn, opr, [106], arg, text) k op = (vertP ls (x1, x2) k x3 false, (x1, x2, x3, x4, x5, x6, x7, x8)) := by
  simp [lineA, wordA, vertA, curOf]
theorem lineA_16 (ls : Ls) (x1 x2 x3 x4 : Int) (x5 x6 : UInt8) (x7 : List UInt8) (x8 : Bool) (rg : UInt8) (cn : Int) (opr : List UInt8) (arg : UInt8) (text : List UInt8) (op : Bool) (k : Int) (_ : numF cn 1 = k) : lineA ls (x1, x2, x3, x4, x5, x6, x7, x8) (rg, cn, opr, [107], arg, text) k op = (vertP ls (x1, x2) k x3 true, (x1, x2, x3, x4, x5, x6, x7, x8)) := by
  simp [lineA, wordA, vertA, curOf]
theorem lineA_17 (ls : Ls) (x1 x2 x3 x4 : Int) (x5 x6 : UInt8) (x7 : List UInt8) (x8 : Bool) (rg : UInt8) (cn : Int) (opr : List UInt8) (arg : UInt8) (text : List UInt8) (op : Bool) (k : Int) (_ : numF cn 1 = k) : lineA ls (x1, x2, x3, x4, x5, x6, x7, x8) (rg, cn, opr, [43], arg, text) k op = (plusP ls (x1, x2) k, (x1, x2, x3, x4, x5, x6, x7, x8)) := by
  simp [lineA, wordA, vertA, curOf]
theorem lineA_18 (ls : Ls) (x1 x2 x3 x4 : Int) (x5 x6 : UInt8) (x7 : List UInt8) (x8 : Bool) (rg : UInt8) (cn : Int) (opr : List UInt8) (arg : UInt8) (text : List UInt8) (op : Bool) (k : Int) (_ : numF cn 1 = k) : lineA ls (x1, x2, x3, x4, x5, x6, x7, x8) (rg, cn, opr, [45], arg, text) k op = (minusP ls (x1, x2) k, (x1, x2, x3, x4, x5, x6, x7, x8)) := by
  simp [lineA, wordA, vertA, curOf]
theorem lineA_19 (ls : Ls) (x1 x2 x3 x4 : Int) (x5 x6 : UInt8) (x7 : List UInt8) (x8 : Bool) (rg : UInt8) (cn : Int) (opr : List UInt8) (arg : UInt8) (text : List UInt8) (op : Bool) (k : Int) (_ : numF cn 1 = k) : lineA ls (x1, x2, x3, x4, x5, x6, x7, x8) (rg, cn, opr, [95], arg, text) k op = (underP ls (x1, x2) k, (x1, x2, x3, x4, x5, x6, x7, x8)) := by
  simp [lineA, wordA, vertA, curOf]
theorem lineA_20 (ls : Ls) (x1 x2 x3 x4 : Int) (x5 x6 : UInt8) (x7 : List UInt8) (x8 : Bool) (rg : UInt8) (cn : Int) (opr : List UInt8) (arg : UInt8) (text : List UInt8) (op : Bool) (k : Int) (hk : numF cn 1 = k) : lineA ls (x1, x2, x3, x4, x5, x6, x7, x8) (rg, cn, opr, [103, 103], arg, text) k op = (gotoP ls (x1, x2) k, (x1, x2, x3, x4, x5, x6, x7, x8)) := by
  simp [lineA, wordA, vertA, curOf, hk]
theorem lineA_21 (ls : Ls) (x1 x2 x3 x4 : Int) (x5 x6 : UInt8) (x7 : List UInt8) (x8 : Bool) (rg : UInt8) (cn : Int) (opr : List UInt8) (arg : UInt8) (text : List UInt8) (op : Bool) (k : Int) (_ : numF cn 1 = k) : lineA ls (x1, x2, x3, x4, x5, x6, x7, x8) (rg, cn, opr, [72], arg, text) k op = (screenP ls (x1, x2) x4 72 k, (x1, x2, x3, x4, x5, x6, x7, x8)) := by
  simp [lineA, wordA, vertA, curOf]
theorem lineA_22 (ls : Ls) (x1 x2 x3 x4 : Int) (x5 x6 : UInt8) (x7 : List UInt8) (x8 : Bool) (rg : UInt8) (cn : Int) (opr : List UInt8) (arg : UInt8) (text : List UInt8) (op : Bool) (k : Int) (_ : numF cn 1 = k) : lineA ls (x1, x2, x3, x4, x5, x6, x7, x8) (rg, cn, opr, [77], arg, text) k op = (screenP ls (x1, x2) x4 77 k, (x1, x2, x3, x4, x5, x6, x7, x8)) := by
  simp [lineA, wordA, vertA, curOf]
theorem lineA_23 (ls : Ls) (x1 x2 x3 x4 : Int) (x5 x6 : UInt8) (x7 : List UInt8) (x8 : Bool) (rg : UInt8) (cn : Int) (opr : List UInt8) (arg : UInt8) (text : List UInt8) (op : Bool) (k : Int) (_ : numF cn 1 = k) : lineA ls (x1, x2, x3, x4, x5, x6, x7, x8) (rg, cn, opr, [76], arg, text) k op = (screenP ls (x1, x2) x4 76 k, (x1, x2, x3, x4, x5, x6, x7, x8)) := by
  simp [lineA, wordA, vertA, curOf]
theorem lineA_24 (ls : Ls) (x1 x2 x3 x4 : Int) (x5 x6 : UInt8) (x7 : List UInt8) (x8 : Bool) (rg : UInt8) (cn : Int) (opr : List UInt8) (arg : UInt8) (text : List UInt8) (op : Bool) (k : Int) (_ : numF cn 1 = k) : lineA ls (x1, x2, x3, x4, x5, x6, x7, x8) (rg, cn, opr, [125], arg, text) k op = (parNextP ls (x1, x2) k op, (x1, x2, x3, x4, x5, x6, x7, x8)) := by
  simp [lineA, wordA, vertA, textA, curOf]
theorem lineA_25 (ls : Ls) (x1 x2 x3 x4 : Int) (x5 x6 : UInt8) (x7 : List UInt8) (x8 : Bool) (rg : UInt8) (cn : Int) (opr : List UInt8) (arg : UInt8) (text : List UInt8) (op : Bool) (k : Int) (_ : numF cn 1 = k) : lineA ls (x1, x2, x3, x4, x5, x6, x7, x8) (rg, cn, opr, [123], arg, text) k op = (parBackP ls (x1, x2) k, (x1, x2, x3, x4, x5, x6, x7, x8)) := by
  simp [lineA, wordA, vertA, textA, curOf]
theorem lineA_26 (ls : Ls) (x1 x2 x3 x4 : Int) (x5 x6 : UInt8) (x7 : List UInt8) (x8 : Bool) (rg : UInt8) (cn : Int) (opr : List UInt8) (arg : UInt8) (text : List UInt8) (op : Bool) (k : Int) (_ : numF cn 1 = k) : lineA ls (x1, x2, x3, x4, x5, x6, x7, x8) (rg, cn, opr, [41], arg, text) k op = (sentNextP ls (x1, x2) k op, (x1, x2, x3, x4, x5, x6, x7, x8)) := by
  simp [lineA, wordA, vertA, textA, curOf]
theorem lineA_27 (ls : Ls) (x1 x2 x3 x4 : Int) (x5 x6 : UInt8) (x7 : List UInt8) (x8 : Bool) (rg : UInt8) (cn : Int) (opr : List UInt8) (arg : UInt8) (text : List UInt8) (op : Bool) (k : Int) (_ : numF cn 1 = k) : lineA ls (x1, x2, x3, x4, x5, x6, x7, x8) (rg, cn, opr, [40], arg, text) k op = (sentBackP ls (x1, x2) k, (x1, x2, x3, x4, x5, x6, x7, x8)) := by
  simp [lineA, wordA, vertA, textA, curOf]
theorem lineA_28 (ls : Ls) (x1 x2 x3 x4 : Int) (x5 x6 : UInt8) (x7 : List UInt8) (x8 : Bool) (rg : UInt8) (cn : Int) (opr : List UInt8) (arg : UInt8) (text : List UInt8) (op : Bool) (k : Int) (_ : numF cn 1 = k) : lineA ls (x1, x2, x3, x4, x5, x6, x7, x8) (rg, cn, opr, [37], arg, text) k op = (matchP ls (x1, x2), (x1, x2, x3, x4, x5, x6, x7, x8)) := by
  simp [lineA, wordA, vertA, textA, curOf]
theorem lineA_29 (ls : Ls) (x1 x2 x3 x4 : Int) (x5 x6 : UInt8) (x7 : List UInt8) (x8 : Bool) (rg : UInt8) (cn : Int) (opr : List UInt8) (arg : UInt8) (text : List UInt8) (op : Bool) (k : Int) (_ : numF cn 1 = k) : lineA ls (x1, x2, x3, x4, x5, x6, x7, x8) (rg, cn, opr, [110], arg, text) k op = (searchP ls (x1, x2) x7 x8 k, (x1, x2, x3, x4, x5, x6, x7, x8)) := by
  simp [lineA, wordA, vertA, textA, searchA, curOf]
theorem lineA_30 (ls : Ls) (x1 x2 x3 x4 : Int) (x5 x6 : UInt8) (x7 : List UInt8) (x8 : Bool) (rg : UInt8) (cn : Int) (opr : List UInt8) (arg : UInt8) (text : List UInt8) (op : Bool) (k : Int) (_ : numF cn 1 = k) : lineA ls (x1, x2, x3, x4, x5, x6, x7, x8) (rg, cn, opr, [78], arg, text) k op = (searchP ls (x1, x2) x7 (!x8) k, (x1, x2, x3, x4, x5, x6, x7, x8)) := by
  simp [lineA, wordA, vertA, textA, searchA, curOf]
set_option maxRecDepth 20000 in
set_option maxHeartbeats 8000000 in
theorem calls_do (ls : Ls) (x : Cx) (c : Cm) (op : Bool) (n : List UInt8) (ps : List (Int × Int)) (hf : okText ls) (hl0 : 0 < ls.length) (hcn : c.2.1 ≤ 9223372036854775807) (h7 : x.2.2.2.2.2.2.1.length ≤ 1099511627776) (ht : c.2.2.2.2.2.length ≤ 1099511627776) (hs : n.length = ps.length ∧ n.length ≤ 1000) :
    CallsR Tryz.prog 26 [.sl 1 (ls.map .str), .ptr 0 8 1 0 0, .agg (aCm c), .bool op, .ptr 1 2 1 0 0] (cxR x n ps)
      (aMove (doL ls x c op (rGet (nameM c.2.2.2.2.1) n ps)).1) (cxR (doL ls x c op (rGet (nameM c.2.2.2.2.1) n ps)).2 n ps) := by
  obtain ⟨x1, x2, x3, x4, x5, x6, x7, x8⟩ := x
  obtain ⟨rg, cn, opr, name, arg, text⟩ := c
  dsimp only at hcn h7 ht ⊢
  obtain ⟨k, hk⟩ : ∃ k, k = cntF cn := ⟨_, rfl⟩
  have hk9 : k ≤ 9223372036854775807 := by rw [hk]; unfold cntF; split <;> omega
  have hk1 : numF cn 1 = k := by rw [hk]; rfl
  have D0 : (decide (cn < 0) = true ∧ k = cn) ∨ (decide (cn < 0) = false ∧ max cn 1 = k) := by
    rw [hk]
    unfold cntF
    by_cases h : cn < 0
    · exact .inl ⟨decide_eq_true h, if_neg (by omega)⟩
    · refine .inr ⟨decide_eq_false h, ?_⟩
      split <;> omega
  have hsm := small_of hf
  unfold doL
  dsimp only
  obtain ⟨g, hg⟩ : ∃ g, g = rGet (nameM arg) n ps := ⟨_, rfl⟩
  rw [← hg, ← hk]
  by_cases m1 : name = [39]
  · rw [if_pos m1]
    cases g with
    | none => exact calls_do_mark0 ls x1 x2 x3 x4 x5 x6 x7 x8 rg cn opr name arg text op n ps k hf hk9 h7 ht D0 trivial hs hl0 true (.inl ⟨m1, rfl⟩) hg
    | some q =>
      obtain ⟨g1, g2⟩ := q
      exact calls_do_mark ls x1 x2 x3 x4 x5 x6 x7 x8 rg cn opr name arg text op n ps k hf hk9 h7 ht D0 hs hl0 true (.inl ⟨m1, rfl⟩) g1 g2 hg hsm _ _ rfl
  rw [if_neg m1]
  by_cases m2 : name = [96]
  · rw [if_pos m2]
    cases g with
    | none => exact calls_do_mark0 ls x1 x2 x3 x4 x5 x6 x7 x8 rg cn opr name arg text op n ps k hf hk9 h7 ht D0 trivial hs hl0 false (.inr ⟨m2, rfl⟩) hg
    | some q =>
      obtain ⟨g1, g2⟩ := q
      exact calls_do_mark ls x1 x2 x3 x4 x5 x6 x7 x8 rg cn opr name arg text op n ps k hf hk9 h7 ht D0 hs hl0 false (.inr ⟨m2, rfl⟩) g1 g2 hg hsm _ _ rfl
  rw [if_neg m2]
  by_cases u0 : name = [104]
  · exact calls_do_a ls x1 x2 x3 x4 x5 x6 x7 x8 rg cn opr name arg text op n ps k hf hk9 h7 D0 (.inl ⟨u0, lineA_0 ls x1 x2 x3 x4 x5 x6 x7 x8 rg cn opr arg text op k hk1⟩)
  by_cases u1 : name = [108]
  · exact calls_do_a ls x1 x2 x3 x4 x5 x6 x7 x8 rg cn opr name arg text op n ps k hf hk9 h7 D0 (.inr (.inl ⟨u1, lineA_1 ls x1 x2 x3 x4 x5 x6 x7 x8 rg cn opr arg text op k hk1⟩))
  by_cases u2 : name = [48]
  · exact calls_do_a ls x1 x2 x3 x4 x5 x6 x7 x8 rg cn opr name arg text op n ps k hf hk9 h7 D0 (.inr (.inr (.inl ⟨u2, lineA_2 ls x1 x2 x3 x4 x5 x6 x7 x8 rg cn opr arg text op k hk1⟩)))
  by_cases u3 : name = [94]
  · exact calls_do_a ls x1 x2 x3 x4 x5 x6 x7 x8 rg cn opr name arg text op n ps k hf hk9 h7 D0 (.inr (.inr (.inr (.inl ⟨u3, lineA_3 ls x1 x2 x3 x4 x5 x6 x7 x8 rg cn opr arg text op k hk1⟩))))
  by_cases u4 : name = [36]
  · exact calls_do_a ls x1 x2 x3 x4 x5 x6 x7 x8 rg cn opr name arg text op n ps k hf hk9 h7 D0 (.inr (.inr (.inr (.inr (.inl ⟨u4, lineA_4 ls x1 x2 x3 x4 x5 x6 x7 x8 rg cn opr arg text op k hk1⟩)))))
  by_cases u5 : name = [124]
  · exact calls_do_a ls x1 x2 x3 x4 x5 x6 x7 x8 rg cn opr name arg text op n ps k hf hk9 h7 D0 (.inr (.inr (.inr (.inr (.inr (.inl ⟨u5, lineA_5 ls x1 x2 x3 x4 x5 x6 x7 x8 rg cn opr arg text op k hk1⟩))))))
  by_cases u6 : name = [59]
  · exact calls_do_a ls x1 x2 x3 x4 x5 x6 x7 x8 rg cn opr name arg text op n ps k hf hk9 h7 D0 (.inr (.inr (.inr (.inr (.inr (.inr (.inl ⟨u6, lineA_6 ls x1 x2 x3 x4 x5 x6 x7 x8 rg cn opr arg text op k hk1⟩)))))))
  by_cases u7 : name = [119]
  · exact calls_do_a ls x1 x2 x3 x4 x5 x6 x7 x8 rg cn opr name arg text op n ps k hf hk9 h7 D0 (.inr (.inr (.inr (.inr (.inr (.inr (.inr (.inl ⟨u7, lineA_7 ls x1 x2 x3 x4 x5 x6 x7 x8 rg cn opr arg text op k hk1⟩))))))))
  by_cases u8 : name = [87]
  · exact calls_do_a ls x1 x2 x3 x4 x5 x6 x7 x8 rg cn opr name arg text op n ps k hf hk9 h7 D0 (.inr (.inr (.inr (.inr (.inr (.inr (.inr (.inr (.inl ⟨u8, lineA_8 ls x1 x2 x3 x4 x5 x6 x7 x8 rg cn opr arg text op k hk1⟩)))))))))
  by_cases u9 : name = [98]
  · exact calls_do_a ls x1 x2 x3 x4 x5 x6 x7 x8 rg cn opr name arg text op n ps k hf hk9 h7 D0 (.inr (.inr (.inr (.inr (.inr (.inr (.inr (.inr (.inr (⟨u9, lineA_9 ls x1 x2 x3 x4 x5 x6 x7 x8 rg cn opr arg text op k hk1⟩))))))))))
  by_cases u10 : name = [66]
  · exact calls_do_b ls x1 x2 x3 x4 x5 x6 x7 x8 rg cn opr name arg text op n ps k hf hk9 h7 D0 (.inl ⟨u10, lineA_10 ls x1 x2 x3 x4 x5 x6 x7 x8 rg cn opr arg text op k hk1⟩)
  by_cases u11 : name = [101]
  · exact calls_do_b ls x1 x2 x3 x4 x5 x6 x7 x8 rg cn opr name arg text op n ps k hf hk9 h7 D0 (.inr (.inl ⟨u11, lineA_11 ls x1 x2 x3 x4 x5 x6 x7 x8 rg cn opr arg text op k hk1⟩))
  by_cases u12 : name = [69]
  · exact calls_do_b ls x1 x2 x3 x4 x5 x6 x7 x8 rg cn opr name arg text op n ps k hf hk9 h7 D0 (.inr (.inr (.inl ⟨u12, lineA_12 ls x1 x2 x3 x4 x5 x6 x7 x8 rg cn opr arg text op k hk1⟩)))
  by_cases u13 : name = [103, 101]
  · exact calls_do_b ls x1 x2 x3 x4 x5 x6 x7 x8 rg cn opr name arg text op n ps k hf hk9 h7 D0 (.inr (.inr (.inr (.inl ⟨u13, lineA_13 ls x1 x2 x3 x4 x5 x6 x7 x8 rg cn opr arg text op k hk1⟩))))
  by_cases u14 : name = [103, 69]
  · exact calls_do_b ls x1 x2 x3 x4 x5 x6 x7 x8 rg cn opr name arg text op n ps k hf hk9 h7 D0 (.inr (.inr (.inr (.inr (.inl ⟨u14, lineA_14 ls x1 x2 x3 x4 x5 x6 x7 x8 rg cn opr arg text op k hk1⟩)))))
  by_cases u15 : name = [106]
  · exact calls_do_b ls x1 x2 x3 x4 x5 x6 x7 x8 rg cn opr name arg text op n ps k hf hk9 h7 D0 (.inr (.inr (.inr (.inr (.inr (.inl ⟨u15, lineA_15 ls x1 x2 x3 x4 x5 x6 x7 x8 rg cn opr arg text op k hk1⟩))))))
  by_cases u16 : name = [107]
  · exact calls_do_b ls x1 x2 x3 x4 x5 x6 x7 x8 rg cn opr name arg text op n ps k hf hk9 h7 D0 (.inr (.inr (.inr (.inr (.inr (.inr (.inl ⟨u16, lineA_16 ls x1 x2 x3 x4 x5 x6 x7 x8 rg cn opr arg text op k hk1⟩)))))))
  by_cases u17 : name = [43]
  · exact calls_do_b ls x1 x2 x3 x4 x5 x6 x7 x8 rg cn opr name arg text op n ps k hf hk9 h7 D0 (.inr (.inr (.inr (.inr (.inr (.inr (.inr (.inl ⟨u17, lineA_17 ls x1 x2 x3 x4 x5 x6 x7 x8 rg cn opr arg text op k hk1⟩))))))))
  by_cases u18 : name = [45]
  · exact calls_do_b ls x1 x2 x3 x4 x5 x6 x7 x8 rg cn opr name arg text op n ps k hf hk9 h7 D0 (.inr (.inr (.inr (.inr (.inr (.inr (.inr (.inr (.inl ⟨u18, lineA_18 ls x1 x2 x3 x4 x5 x6 x7 x8 rg cn opr arg text op k hk1⟩)))))))))
  by_cases u19 : name = [95]
  · exact calls_do_b ls x1 x2 x3 x4 x5 x6 x7 x8 rg cn opr name arg text op n ps k hf hk9 h7 D0 (.inr (.inr (.inr (.inr (.inr (.inr (.inr (.inr (.inr (⟨u19, lineA_19 ls x1 x2 x3 x4 x5 x6 x7 x8 rg cn opr arg text op k hk1⟩))))))))))
  by_cases u20 : name = [103, 103]
  · exact calls_do_c ls x1 x2 x3 x4 x5 x6 x7 x8 rg cn opr name arg text op n ps k hf hk9 h7 D0 (.inl ⟨u20, lineA_20 ls x1 x2 x3 x4 x5 x6 x7 x8 rg cn opr arg text op k hk1⟩)
  by_cases u21 : name = [72]
  · exact calls_do_c ls x1 x2 x3 x4 x5 x6 x7 x8 rg cn opr name arg text op n ps k hf hk9 h7 D0 (.inr (.inl ⟨u21, lineA_21 ls x1 x2 x3 x4 x5 x6 x7 x8 rg cn opr arg text op k hk1⟩))
  by_cases u22 : name = [77]
  · exact calls_do_c ls x1 x2 x3 x4 x5 x6 x7 x8 rg cn opr name arg text op n ps k hf hk9 h7 D0 (.inr (.inr (.inl ⟨u22, lineA_22 ls x1 x2 x3 x4 x5 x6 x7 x8 rg cn opr arg text op k hk1⟩)))
  by_cases u23 : name = [76]
  · exact calls_do_c ls x1 x2 x3 x4 x5 x6 x7 x8 rg cn opr name arg text op n ps k hf hk9 h7 D0 (.inr (.inr (.inr (.inl ⟨u23, lineA_23 ls x1 x2 x3 x4 x5 x6 x7 x8 rg cn opr arg text op k hk1⟩))))
  by_cases u24 : name = [125]
  · exact calls_do_c ls x1 x2 x3 x4 x5 x6 x7 x8 rg cn opr name arg text op n ps k hf hk9 h7 D0 (.inr (.inr (.inr (.inr (.inl ⟨u24, lineA_24 ls x1 x2 x3 x4 x5 x6 x7 x8 rg cn opr arg text op k hk1⟩)))))
  by_cases u25 : name = [123]
  · exact calls_do_c ls x1 x2 x3 x4 x5 x6 x7 x8 rg cn opr name arg text op n ps k hf hk9 h7 D0 (.inr (.inr (.inr (.inr (.inr (.inl ⟨u25, lineA_25 ls x1 x2 x3 x4 x5 x6 x7 x8 rg cn opr arg text op k hk1⟩))))))
  by_cases u26 : name = [41]
  · exact calls_do_c ls x1 x2 x3 x4 x5 x6 x7 x8 rg cn opr name arg text op n ps k hf hk9 h7 D0 (.inr (.inr (.inr (.inr (.inr (.inr (.inl ⟨u26, lineA_26 ls x1 x2 x3 x4 x5 x6 x7 x8 rg cn opr arg text op k hk1⟩)))))))
  by_cases u27 : name = [40]
  · exact calls_do_c ls x1 x2 x3 x4 x5 x6 x7 x8 rg cn opr name arg text op n ps k hf hk9 h7 D0 (.inr (.inr (.inr (.inr (.inr (.inr (.inr (.inl ⟨u27, lineA_27 ls x1 x2 x3 x4 x5 x6 x7 x8 rg cn opr arg text op k hk1⟩))))))))
  by_cases u28 : name = [37]
  · exact calls_do_c ls x1 x2 x3 x4 x5 x6 x7 x8 rg cn opr name arg text op n ps k hf hk9 h7 D0 (.inr (.inr (.inr (.inr (.inr (.inr (.inr (.inr (.inl ⟨u28, lineA_28 ls x1 x2 x3 x4 x5 x6 x7 x8 rg cn opr arg text op k hk1⟩)))))))))
  by_cases u29 : name = [110]
  · exact calls_do_c ls x1 x2 x3 x4 x5 x6 x7 x8 rg cn opr name arg text op n ps k hf hk9 h7 D0 (.inr (.inr (.inr (.inr (.inr (.inr (.inr (.inr (.inr (.inl ⟨u29, lineA_29 ls x1 x2 x3 x4 x5 x6 x7 x8 rg cn opr arg text op k hk1⟩))))))))))
  by_cases u30 : name = [78]
  · exact calls_do_c ls x1 x2 x3 x4 x5 x6 x7 x8 rg cn opr name arg text op n ps k hf hk9 h7 D0 (.inr (.inr (.inr (.inr (.inr (.inr (.inr (.inr (.inr (.inr (⟨u30, lineA_30 ls x1 x2 x3 x4 x5 x6 x7 x8 rg cn opr arg text op k hk1⟩)))))))))))
  by_cases u31 : name = [102]
  · have e : lineA ls (x1, x2, x3, x4, x5, x6, x7, x8) (rg, cn, opr, name, arg, text) k op = (seekP ls (x1, x2) 102 arg k, (x1, x2, x3, x4, 102, arg, x7, x8)) := by subst u31; simp [lineA, curOf, setKC]
    rw [e]
    exact calls_do_seek ls x1 x2 x3 x4 x5 x6 x7 x8 rg cn opr name arg text op n ps k hf hk9 h7 ht D0 102 trivial trivial (.inl ⟨u31, rfl⟩)
  by_cases u32 : name = [70]
  · have e : lineA ls (x1, x2, x3, x4, x5, x6, x7, x8) (rg, cn, opr, name, arg, text) k op = (seekP ls (x1, x2) 70 arg k, (x1, x2, x3, x4, 70, arg, x7, x8)) := by subst u32; simp [lineA, curOf, setKC]
    rw [e]
    exact calls_do_seek ls x1 x2 x3 x4 x5 x6 x7 x8 rg cn opr name arg text op n ps k hf hk9 h7 ht D0 70 trivial trivial (.inr (.inl ⟨u32, rfl⟩))
  by_cases u33 : name = [116]
  · have e : lineA ls (x1, x2, x3, x4, x5, x6, x7, x8) (rg, cn, opr, name, arg, text) k op = (seekP ls (x1, x2) 116 arg k, (x1, x2, x3, x4, 116, arg, x7, x8)) := by subst u33; simp [lineA, curOf, setKC]
    rw [e]
    exact calls_do_seek ls x1 x2 x3 x4 x5 x6 x7 x8 rg cn opr name arg text op n ps k hf hk9 h7 ht D0 116 trivial trivial (.inr (.inr (.inl ⟨u33, rfl⟩)))
  by_cases u34 : name = [84]
  · have e : lineA ls (x1, x2, x3, x4, x5, x6, x7, x8) (rg, cn, opr, name, arg, text) k op = (seekP ls (x1, x2) 84 arg k, (x1, x2, x3, x4, 84, arg, x7, x8)) := by subst u34; simp [lineA, curOf, setKC]
    rw [e]
    exact calls_do_seek ls x1 x2 x3 x4 x5 x6 x7 x8 rg cn opr name arg text op n ps k hf hk9 h7 ht D0 84 trivial trivial (.inr (.inr (.inr ⟨u34, rfl⟩)))
  by_cases u35 : name = [44]
  · have e : lineA ls (x1, x2, x3, x4, x5, x6, x7, x8) (rg, cn, opr, name, arg, text) k op = ((if x5 = 0 then mNone else seekP ls (x1, x2) (otherK x5) x6 k), (x1, x2, x3, x4, x5, x6, x7, x8)) := by subst u35; simp [lineA, curOf]
    rw [e]
    exact calls_do_comma ls x1 x2 x3 x4 x5 x6 x7 x8 rg cn opr name arg text op n ps k hf hk9 h7 ht D0 trivial trivial u35
  by_cases u36 : name = [71]
  · have e : lineA ls (x1, x2, x3, x4, x5, x6, x7, x8) (rg, cn, opr, name, arg, text) k op = (gotoP ls (x1, x2) (if cn = 0 then (ls.length : Int) else k), (x1, x2, x3, x4, x5, x6, x7, x8)) := by
      subst u36
      have e2 : numF cn (ls.length : Int) = if cn = 0 then (ls.length : Int) else k := by
        rw [hk]
        unfold numF cntF
        split <;> rfl
      simp [lineA, wordA, vertA, curOf, e2]
    rw [e]
    exact calls_do_G ls x1 x2 x3 x4 x5 x6 x7 x8 rg cn opr name arg text op n ps k hf hk9 h7 ht D0 trivial trivial u36
  by_cases u37 : name = [47]
  · have e : lineA ls (x1, x2, x3, x4, x5, x6, x7, x8) (rg, cn, opr, name, arg, text) k op = (searchP ls (x1, x2) (if text = [] then x7 else text) false k, (x1, x2, x3, x4, x5, x6, (if text = [] then x7 else text), false)) := by subst u37; simp [lineA, wordA, vertA, textA, searchA, curOf, setFB]
    rw [e]
    exact calls_do_slash ls x1 x2 x3 x4 x5 x6 x7 x8 rg cn opr name arg text op n ps k hf hk9 h7 ht D0 trivial trivial false (.inl ⟨u37, rfl⟩)
  by_cases u38 : name = [63]
  · have e : lineA ls (x1, x2, x3, x4, x5, x6, x7, x8) (rg, cn, opr, name, arg, text) k op = (searchP ls (x1, x2) (if text = [] then x7 else text) true k, (x1, x2, x3, x4, x5, x6, (if text = [] then x7 else text), true)) := by subst u38; simp [lineA, wordA, vertA, textA, searchA, curOf, setFB]
    rw [e]
    exact calls_do_slash ls x1 x2 x3 x4 x5 x6 x7 x8 rg cn opr name arg text op n ps k hf hk9 h7 ht D0 trivial trivial true (.inr ⟨u38, rfl⟩)
  obtain ⟨wd, hwd⟩ : ∃ wd, wd = wordP ls (x1, x2) := ⟨_, rfl⟩
  have hwl := word_len ls (x1, x2) hf
  rw [← hwd] at hwl
  obtain ⟨⟨w1, w2⟩, wd, has⟩ := wd
  dsimp only at hwl
  by_cases u39 : name = [42]
  · cases has with
    | true =>
      have e : lineA ls (x1, x2, x3, x4, x5, x6, x7, x8) (rg, cn, opr, name, arg, text) k op = (searchP ls (w1, w2) wd false k, (x1, x2, x3, x4, x5, x6, wd, false)) := by subst u39; simp [lineA, wordA, vertA, textA, searchA, curOf, setFB, ← hwd]
      rw [e]
      exact calls_do_star ls x1 x2 x3 x4 x5 x6 x7 x8 rg cn opr name arg text op n ps k hf hk9 h7 ht D0 trivial false w1 w2 wd hwd hwl (.inl ⟨u39, rfl⟩)
    | false =>
      have e : lineA ls (x1, x2, x3, x4, x5, x6, x7, x8) (rg, cn, opr, name, arg, text) k op = (mNone, (x1, x2, x3, x4, x5, x6, x7, x8)) := by subst u39; simp [lineA, wordA, vertA, textA, searchA, curOf, ← hwd]
      rw [e]
      exact calls_do_star0 ls x1 x2 x3 x4 x5 x6 x7 x8 rg cn opr name arg text op n ps k hf hk9 h7 ht D0 trivial trivial (w1, w2) wd hwd (.inl u39)
  by_cases u40 : name = [35]
  · cases has with
    | true =>
      have e : lineA ls (x1, x2, x3, x4, x5, x6, x7, x8) (rg, cn, opr, name, arg, text) k op = (searchP ls (w1, w2) wd true k, (x1, x2, x3, x4, x5, x6, wd, true)) := by subst u40; simp [lineA, wordA, vertA, textA, searchA, curOf, setFB, ← hwd]
      rw [e]
      exact calls_do_star ls x1 x2 x3 x4 x5 x6 x7 x8 rg cn opr name arg text op n ps k hf hk9 h7 ht D0 trivial true w1 w2 wd hwd hwl (.inr ⟨u40, rfl⟩)
    | false =>
      have e : lineA ls (x1, x2, x3, x4, x5, x6, x7, x8) (rg, cn, opr, name, arg, text) k op = (mNone, (x1, x2, x3, x4, x5, x6, x7, x8)) := by subst u40; simp [lineA, wordA, vertA, textA, searchA, curOf, ← hwd]
      rw [e]
      exact calls_do_star0 ls x1 x2 x3 x4 x5 x6 x7 x8 rg cn opr name arg text op n ps k hf hk9 h7 ht D0 trivial trivial (w1, w2) wd hwd (.inr u40)
  have e : lineA ls (x1, x2, x3, x4, x5, x6, x7, x8) (rg, cn, opr, name, arg, text) k op = (mNone, (x1, x2, x3, x4, x5, x6, x7, x8)) := by simp [lineA, wordA, vertA, textA, searchA, u0, u1, u2, u3, u4, u5, u6, u7, u8, u9, u10, u11, u12, u13, u14, u15, u16, u17, u18, u19, u20, u21, u22, u23, u24, u25, u26, u27, u28, u29, u30, u31, u32, u33, u34, u35, u36, u37, u38, u39, u40]
  rw [e]
  exact calls_do_none ls x1 x2 x3 x4 x5 x6 x7 x8 rg cn opr name arg text op n ps k hf hk9 h7 ht D0 trivial trivial (beq_eq_false_iff_ne.2 u0) (beq_eq_false_iff_ne.2 u1) (beq_eq_false_iff_ne.2 u2) (beq_eq_false_iff_ne.2 u3) (beq_eq_false_iff_ne.2 u4) (beq_eq_false_iff_ne.2 u5) (beq_eq_false_iff_ne.2 u6) (beq_eq_false_iff_ne.2 u7) (beq_eq_false_iff_ne.2 u8) (beq_eq_false_iff_ne.2 u9) (beq_eq_false_iff_ne.2 u10) (beq_eq_false_iff_ne.2 u11) (beq_eq_false_iff_ne.2 u12) (beq_eq_false_iff_ne.2 u13) (beq_eq_false_iff_ne.2 u14) (beq_eq_false_iff_ne.2 u15) (beq_eq_false_iff_ne.2 u16) (beq_eq_false_iff_ne.2 u17) (beq_eq_false_iff_ne.2 u18) (beq_eq_false_iff_ne.2 u19) (beq_eq_false_iff_ne.2 u20) (beq_eq_false_iff_ne.2 u21) (beq_eq_false_iff_ne.2 u22) (beq_eq_false_iff_ne.2 u23) (beq_eq_false_iff_ne.2 u24) (beq_eq_false_iff_ne.2 u25) (beq_eq_false_iff_ne.2 u26) (beq_eq_false_iff_ne.2 u27) (beq_eq_false_iff_ne.2 u28) (beq_eq_false_iff_ne.2 u29) (beq_eq_false_iff_ne.2 u30) (beq_eq_false_iff_ne.2 u31) (beq_eq_false_iff_ne.2 u32) (beq_eq_false_iff_ne.2 u33) (beq_eq_false_iff_ne.2 u34) (beq_eq_false_iff_ne.2 u35) (beq_eq_false_iff_ne.2 u36) (beq_eq_false_iff_ne.2 u37) (beq_eq_false_iff_ne.2 u38) (beq_eq_false_iff_ne.2 u39) (beq_eq_false_iff_ne.2 u40) (beq_eq_false_iff_ne.2 m1) (beq_eq_false_iff_ne.2 m2)
abbrev hCxR : HC Cx := hBox 44 8 (hP .id (cAgg lCx))
def kRdo : C1 := C1.mby (hCons (hP (.sl 1 []) cStrs) (hCons hCxR (hCons (hP .id (cAgg lCm)) (hCons (hP .id cBool) (hCons hRef hNil)))))
  (fun d => okText d.1 ∧ 0 < d.1.length ∧ d.2.2.1.2.1 ≤ 9223372036854775807 ∧ d.2.1.2.2.2.2.2.2.1.length ≤ 1099511627776 ∧ d.2.2.1.2.2.2.2.2.length ≤ 1099511627776 ∧ d.2.2.2.2.1.1.length = d.2.2.2.2.1.2.1.length ∧ d.2.2.2.2.1.1.length ≤ 1000)
  (fun d => aMove (doL d.1 d.2.1 d.2.2.1 d.2.2.2.1 (rGet (nameM d.2.2.1.2.2.2.2.1) d.2.2.2.2.1.1 d.2.2.2.2.1.2.1)).1)
  (fun d => cxR (doL d.1 d.2.1 d.2.2.1 d.2.2.2.1 (rGet (nameM d.2.2.1.2.2.2.2.1) d.2.2.2.2.1.1 d.2.2.2.2.1.2.1)).2 d.2.2.2.2.1.1 d.2.2.2.2.1.2.1)
theorem ok_Rdo : C1OK Tryz.prog 26 kRdo := C1OK.mby (by kernel_rfl) (fun d h => calls_do d.1 d.2.1 d.2.2.1 d.2.2.2.1 d.2.2.2.2.1.1 d.2.2.2.2.1.2.1 h.1 h.2.1 h.2.2.1 h.2.2.2.1 h.2.2.2.2.1 h.2.2.2.2.2) (fun _ _ => Nat.le_refl _)
end Go.Pg
namespace Go.Pg
open Go Go.Proofs

def kMarkM : C1 := C1.mby (hCons (hAgg lAskd) (hCons hMarks hNil)) (fun d => okText d.1.1 ∧ 0 < d.1.1.length ∧ (d.1.2.2.2.2.2.1 = [39] ∨ d.1.2.2.2.2.2.1 = [96]))
  (fun d => aMove (markP d.1.1 (look1 (nameM d.1.2.2.2.2.2.2.1) d.2.1.1) (d.1.2.2.2.2.2.1 == [39]))) (fun d => cxM d.1.2.1 d.2.1.1)
theorem ok_markM : C1OK Tryz.prog 23 kMarkM := C1OK.mby (by kernel_rfl) (fun d h => by
  refine calls_markM d.1.1 d.1.2.1 (d.1.2.2.1, d.1.2.2.2.1, d.1.2.2.2.2.1, d.1.2.2.2.2.2.1, d.1.2.2.2.2.2.2.1, d.1.2.2.2.2.2.2.2.1) d.1.2.2.2.2.2.2.2.2.1 d.1.2.2.2.2.2.2.2.2.2.1 d.2.1.1 h.1 h.2.1 _ ?_
  rcases h.2.2 with h | h
  · exact .inl ⟨h, beq_iff_eq.2 h⟩
  · exact .inr ⟨h, by rw [h]; rfl⟩) (fun _ _ => Nat.le_refl _)

/-- What a motion's end comes to, by cases. -/
theorem fin_cases (ls : Ls) (op : Bool) (t1 t2 way : Int) (jp : Bool) (want : Int) (ok : Bool) (q1 q2 : Int) (hq : (q1, q2) = clampP ls (t1, t2) op) :
    (ok = false ∧ (want == -1) = (want == -1) ∧ doFin ls op (((t1, t2), way, jp, want), ok) = mNone) ∨ (ok = true ∧ (want == -1) = true ∧ doFin ls op (((t1, t2), way, jp, want), ok) = (((q1, q2), way, jp, q2), true))
      ∨ (ok = true ∧ (want == -1) = false ∧ doFin ls op (((t1, t2), way, jp, want), ok) = (((q1, q2), way, jp, want), true)) := by
  unfold doFin
  dsimp only
  rw [← hq]
  cases ok with
  | false => exact .inl ⟨rfl, rfl, by rw [if_neg (by simp)]⟩
  | true =>
    rw [if_pos rfl]
    by_cases hw : want = -1
    · exact .inr (.inl ⟨rfl, beq_iff_eq.2 hw, by rw [if_pos hw]⟩)
    · exact .inr (.inr ⟨rfl, beq_eq_false_iff_ne.2 hw, by rw [if_neg hw]⟩)

set_option maxRecDepth 20000 in
set_option maxHeartbeats 16000000 in
theorem calls_DoM (ls : Ls) (x : Cx) (c : Cm) (op : Bool) (l : Mks) (hf : okText ls) (hl0 : 0 < ls.length) (hcn : c.2.1 ≤ 9223372036854775807) :
    CallsR Tryz.prog 12 [.sl 1 (ls.map .str), .ptr 0 8 1 0 0, .agg (aCm c), .bool op, .ptr 1 1 1 0 0] (cxM x l) (aMove (doM ls x c op (look1 (nameM c.2.2.2.2.1) l)).1) (cxM (doM ls x c op (look1 (nameM c.2.2.2.2.1) l)).2 l) := by
  refine callsR_of (mrg := true) (dyn := []) (CtrOK.cons ok_markM (CtrOK.cons ok_lineA (CtrOK.cons ok_Clamp (CtrOK.nil _)))) mixed Tryz.func12 rfl (by simp [Tryz.ntmps12]) (by kernel_rfl) ?_
  rw [show Tryz.f12.results.toList = [.cell 10 49, .tmp 11] from by kernel_rfl]
  have hsm := small_of hf
  obtain ⟨rg, cn, opr, name, arg, text⟩ := c
  dsimp only at hcn ⊢
  obtain ⟨x1, x2, x3, x4, x5, x6, x7, x8⟩ := x
  have hll := hf.1
  have c4 : ((ls.length : Int) == 0) = false := beq_eq_false_iff_ne.2 (by omega)
  have D0 : ((cn == 0) = true ∧ cntF cn = 1) ∨ ((cn == 0) = false ∧ cntF cn = cn) := by
    unfold cntF
    by_cases h : cn = 0
    · exact .inl ⟨beq_iff_eq.2 h, if_pos h⟩
    · exact .inr ⟨beq_eq_false_iff_ne.2 h, if_neg h⟩
  obtain ⟨g, hg⟩ : ∃ g, g = look1 (nameM arg) l := ⟨_, rfl⟩
  rw [← hg]
  unfold doM
  obtain ⟨R, hR⟩ : ∃ R, R = doL ls (x1, x2, x3, x4, x5, x6, x7, x8) (rg, cn, opr, name, arg, text) op g := ⟨_, rfl⟩
  rw [← hR]
  obtain ⟨⟨⟨⟨t1, t2⟩, way, jp, want⟩, ok⟩, y1, y2, y3, y4, y5, y6, y7, y8⟩ := R
  dsimp only
  unfold doL at hR
  dsimp only at hR
  obtain ⟨q, hq⟩ : ∃ q, q = clampP ls (t1, t2) op := ⟨_, rfl⟩
  obtain ⟨q1, q2⟩ := q
  have E := fin_cases ls op t1 t2 way jp want ok q1 q2 hq
  by_cases hm : name = [39] ∨ name = [96]
  · have M : (name = [39] ∧ (((t1, t2), way, jp, want), ok) = markP ls g true ∧ (y1, y2, y3, y4, y5, y6, y7, y8) = (x1, x2, x3, x4, x5, x6, x7, x8)) ∨ (name = [96] ∧ (((t1, t2), way, jp, want), ok) = markP ls g false ∧ (y1, y2, y3, y4, y5, y6, y7, y8) = (x1, x2, x3, x4, x5, x6, x7, x8)) := by
      rcases hm with rfl | rfl
      · rw [if_pos rfl] at hR
        exact .inl ⟨rfl, congrArg Prod.fst hR, congrArg Prod.snd hR⟩
      · rw [if_neg (by decide), if_pos rfl] at hR
        exact .inr ⟨rfl, congrArg Prod.fst hR, congrArg Prod.snd hR⟩
    clear hR hm
    rcases M with ⟨rfl, hr, hy⟩ | ⟨rfl, hr, hy⟩
    all_goals
      cases hy
      rcases E with ⟨rfl, cw, e⟩ | ⟨rfl, cw, e⟩ | ⟨rfl, cw, e⟩
      all_goals
        rw [e]
        rcases D0 with ⟨c0, _⟩ | ⟨c0, _⟩
        all_goals
          simp (maxSteps := 4000000) only [go_sem, Nat.reduceAdd, reduceCtorEq, Nat.reduceEqDiff, Nat.reduceLT, Nat.reduceSub, Nat.reduceBEq, Nat.reduceLeDiff, tk3, tk9, tk22, tk25, tk29, dz29, tk49, tz49, dz49, tk68, tz68, dz68, kMarkM, kLineA, kClamp, hMarks, decE_pos, aMove, aMv, mNone, aPos, byteA, cons_beq8, UInt8.reduceToNat, c0, c4, ←hg, ←hr, ←hq, cw]
          (repeat' first | exact hf | exact hsm | exact hl0 | exact .inl rfl | exact .inr rfl | (show dynOrd _ _ = true; kernel_rfl) | exact subX_eq rfl rfl | exact trivial | apply And.intro | rfl | omega | apply subX_one)
          all_goals try simp (maxSteps := 4000000) only [go_sem, Nat.reduceAdd, reduceIte, reduceCtorEq, Nat.reduceEqDiff, Nat.reduceLT, Nat.reduceSub, Nat.reduceMul, Int.reduceToNat, Int.reduceLE, Int.reduceLT, UInt8.reduceOfNat, Nat.reduceBEq, Int.reduceBEq, Int.reduceBNe, Nat.reduceBNe, Nat.reducePow, Nat.reduceLeDiff, tk3, tz3, dz3, eb3, eq3, tk4, tz4, dz4, eb4, eq4, tk9, tz9, dz9, eb9, eq9, tk22, tz22, dz22, eb22, tk25, tz25, dz25, eb25, eq25, tk29, tz29, dz29, eb29, eq29, tk34, tz34, dz34, pt34, tk49, tz49, dz49, eb49, eq49, tk68, tz68, dz68, eb68]
  · have g2 := str_ne (fun h => hm (.inl h))
    have g3 := str_ne (fun h => hm (.inr h))
    rw [if_neg (fun h => hm (.inl h)), if_neg (fun h => hm (.inr h))] at hR
    rcases E with ⟨rfl, cw, e⟩ | ⟨rfl, cw, e⟩ | ⟨rfl, cw, e⟩
    all_goals
      rw [e]
      rcases D0 with ⟨c0, c1⟩ | ⟨c0, c1⟩
      all_goals
        rw [c1] at hR
        simp (maxSteps := 4000000) only [go_sem, Nat.reduceAdd, reduceCtorEq, Nat.reduceEqDiff, Nat.reduceLT, Int.reduceLE, Nat.reduceLeDiff, tk3, tk9, tk22, tk25, tk29, dz29, tk49, tz49, dz49, tk68, tz68, dz68, kMarkM, kLineA, kClamp, hMarks, aMove, aMv, mNone, aPos, c0, c4, g2, g3, ←hR, ←hq, cw]
        (repeat' first | exact hf | exact hsm | exact hl0 | exact hcn | exact ⟨hf, hcn⟩ | (show dynOrd _ _ = true; kernel_rfl) | exact subX_eq rfl rfl | exact trivial | apply And.intro | rfl | omega | apply subX_one)
        all_goals try simp (maxSteps := 4000000) only [go_sem, Nat.reduceAdd, reduceIte, reduceCtorEq, Nat.reduceEqDiff, Nat.reduceLT, Nat.reduceSub, Nat.reduceMul, Int.reduceToNat, Int.reduceLE, Int.reduceLT, UInt8.reduceOfNat, Nat.reduceBEq, Int.reduceBEq, Int.reduceBNe, Nat.reduceBNe, Nat.reducePow, Nat.reduceLeDiff, tk3, tz3, dz3, eb3, eq3, tk4, tz4, dz4, eb4, eq4, tk9, tz9, dz9, eb9, eq9, tk22, tz22, dz22, eb22, tk25, tz25, dz25, eb25, eq25, tk29, tz29, dz29, eb29, eq29, tk34, tz34, dz34, pt34, tk49, tz49, dz49, eb49, eq49, tk68, tz68, dz68, eb68]
def kDoM : C1 := C1.mby (hCons (hP (.sl 1 []) cStrs) (hCons hCx (hCons (hP .id (cAgg lCm)) (hCons (hP .id cBool) (hCons hMarks hNil))))) (fun d => okText d.1 ∧ 0 < d.1.length ∧ d.2.2.1.2.1 ≤ 9223372036854775807)
  (fun d => aMove (doM d.1 d.2.1 d.2.2.1 d.2.2.2.1 (look1 (nameM d.2.2.1.2.2.2.2.1) d.2.2.2.2.1.1)).1) (fun d => cxM (doM d.1 d.2.1 d.2.2.1 d.2.2.2.1 (look1 (nameM d.2.2.1.2.2.2.2.1) d.2.2.2.2.1.1)).2 d.2.2.2.2.1.1)
theorem ok_DoM : C1OK Tryz.prog 12 kDoM := C1OK.mby (by kernel_rfl) (fun d h => calls_DoM d.1 d.2.1 d.2.2.1 d.2.2.2.1 d.2.2.2.2.1.1 h.1 h.2.1 h.2.2) (fun _ _ => Nat.le_refl _)

set_option maxRecDepth 20000 in
set_option maxHeartbeats 16000000 in
theorem calls_RDo (ls : Ls) (x : Cx) (c : Cm) (op : Bool) (n : List UInt8) (ps : List (Int × Int)) (hf : okText ls) (hl0 : 0 < ls.length) (hcn : c.2.1 ≤ 9223372036854775807) (h7 : x.2.2.2.2.2.2.1.length ≤ 1099511627776) (ht : c.2.2.2.2.2.length ≤ 1099511627776) (hs : n.length = ps.length ∧ n.length ≤ 1000) :
    CallsR Tryz.prog 13 [.sl 1 (ls.map .str), .ptr 0 8 1 0 0, .agg (aCm c), .bool op, .ptr 1 2 1 0 0] (cxR x n ps)
      (aMove (doM ls x c op (rGet (nameM c.2.2.2.2.1) n ps)).1) (cxR (doM ls x c op (rGet (nameM c.2.2.2.2.1) n ps)).2 n ps) := by
  refine callsR_of (mrg := true) (dyn := []) (CtrOK.cons ok_Rdo (CtrOK.cons ok_RClampD (CtrOK.nil _))) mixed Tryz.func13 rfl (by simp [Tryz.ntmps13]) (by kernel_rfl) ?_
  rw [show Tryz.f13.results.toList = [.cell 10 49, .tmp 11] from by kernel_rfl]
  have hsm := small_of hf
  obtain ⟨rg, cn, opr, name, arg, text⟩ := c
  obtain ⟨x1, x2, x3, x4, x5, x6, x7, x8⟩ := x
  dsimp only at hcn h7 ht ⊢
  obtain ⟨g, hg⟩ : ∃ g, g = rGet (nameM arg) n ps := ⟨_, rfl⟩
  rw [← hg]
  unfold doM
  obtain ⟨R, hR⟩ : ∃ R, R = doL ls (x1, x2, x3, x4, x5, x6, x7, x8) (rg, cn, opr, name, arg, text) op g := ⟨_, rfl⟩
  rw [← hR]
  obtain ⟨⟨⟨⟨t1, t2⟩, way, jp, want⟩, ok⟩, y1, y2, y3, y4, y5, y6, y7, y8⟩ := R
  dsimp only
  obtain ⟨q, hq⟩ : ∃ q, q = clampP ls (t1, t2) op := ⟨_, rfl⟩
  obtain ⟨q1, q2⟩ := q
  have E := fin_cases ls op t1 t2 way jp want ok q1 q2 hq
  rcases E with ⟨rfl, cw, e⟩ | ⟨rfl, cw, e⟩ | ⟨rfl, cw, e⟩
  all_goals
    rw [e]
    simp (maxSteps := 4000000) only [go_sem, Nat.reduceAdd, reduceCtorEq, Nat.reduceEqDiff, Nat.reduceLT, Nat.reduceSub, Nat.reduceBEq, Nat.reduceLeDiff, tk3, tk25, tk29, dz29, tk49, tz49, dz49, kRdo, kClampD, hRef, decL_aPs, renL_aPs, renL_bytes, length_aPs, pureB_aPs, aMove, aMv, mNone, aPos, ←hg, ←hR, ←hq, cw]
    (repeat' first | exact hf | exact hsm | exact hl0 | exact hcn | exact h7 | exact ht | exact hs.1 | exact hs.2 | (show dynOrd _ _ = true; kernel_rfl) | exact subX_eq rfl rfl | exact subX_eq rfl (pureB_bytes _) | exact subX_eq rfl (pureB_aPs _) | exact trivial | apply And.intro | rfl | omega | apply subX_one)
    all_goals try simp (maxSteps := 4000000) only [go_sem, Nat.reduceAdd, reduceIte, reduceCtorEq, Nat.reduceEqDiff, Nat.reduceLT, Nat.reduceSub, Nat.reduceMul, Int.reduceToNat, Int.reduceLE, Int.reduceLT, UInt8.reduceOfNat, Nat.reduceBEq, Int.reduceBEq, Int.reduceBNe, Nat.reduceBNe, Nat.reducePow, Nat.reduceLeDiff, tk3, tz3, dz3, eb3, eq3, tk4, tz4, dz4, eb4, eq4, tk9, tz9, dz9, eb9, eq9, tk22, tz22, dz22, eb22, tk25, tz25, dz25, eb25, eq25, tk29, tz29, dz29, eb29, eq29, tk36, tz36, dz36, pt36, tk49, tz49, dz49, eb49, eq49, tk54, tz54, dz54, pt54]
def kRDo : C1 := C1.mby (hCons (hP (.sl 1 []) cStrs) (hCons hCxR (hCons (hP .id (cAgg lCm)) (hCons (hP .id cBool) (hCons hRef hNil)))))
  (fun d => okText d.1 ∧ 0 < d.1.length ∧ d.2.2.1.2.1 ≤ 9223372036854775807 ∧ d.2.1.2.2.2.2.2.2.1.length ≤ 1099511627776 ∧ d.2.2.1.2.2.2.2.2.length ≤ 1099511627776 ∧ d.2.2.2.2.1.1.length = d.2.2.2.2.1.2.1.length ∧ d.2.2.2.2.1.1.length ≤ 1000)
  (fun d => aMove (doM d.1 d.2.1 d.2.2.1 d.2.2.2.1 (rGet (nameM d.2.2.1.2.2.2.2.1) d.2.2.2.2.1.1 d.2.2.2.2.1.2.1)).1)
  (fun d => cxR (doM d.1 d.2.1 d.2.2.1 d.2.2.2.1 (rGet (nameM d.2.2.1.2.2.2.2.1) d.2.2.2.2.1.1 d.2.2.2.2.1.2.1)).2 d.2.2.2.2.1.1 d.2.2.2.2.1.2.1)
theorem ok_RDo : C1OK Tryz.prog 13 kRDo := C1OK.mby (by kernel_rfl) (fun d h => calls_RDo d.1 d.2.1 d.2.2.1 d.2.2.2.1 d.2.2.2.2.1.1 d.2.2.2.2.1.2.1 h.1 h.2.1 h.2.2.1 h.2.2.2.1 h.2.2.2.2.1 h.2.2.2.2.2) (fun _ _ => Nat.le_refl _)
end Go.Pg
