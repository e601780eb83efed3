/-
  No cell of these rows narrows 'for every input' (looked for: loops, veiled, ifaces, maps, wideKeys, modest, calm, conditions, laid).
  DERIVED. THE GIVEN ROWS OF THIS SEAT. 12 by the template 'for every input the law returns true; each argument reads behind the call as it read before'; 0 by the template 'total and deterministic' (their statements: YtkjfcpdancjhmaaTotals.lean).
  GIVEN WITH THE SEED: the statements are not yours to turn. If you find one false, say at which input.
  Laid BY PROGRAM, IN A SANDBOX (cutbox-rows.mjs): the forced cells as the released guide's own fill.sh prints them over the translation f5789d0fd5f06f91… (all of the seat's roots in one cut). By AI agents, Wed Nov 11 2026. No macro, syntax, notation, axiom, sorry.
-/
import Derived.Test.YtkjfcpdancjhmaaChecked
import GoSem.Claim
import GoSem.ClaimJoined
import GoSem.ClaimMapViews
import Derived.JoinedTies
import Derived.KernelRfl
namespace Go.Proofs.Ytkjfcpdancjhmaa
/- THE CELL 'sum', in the pinned program and in every row, IS THE sha256 OF THE DUMP (.gsa) THAT YtkjfcpdancjhmaaProg.lean LOADS. Nothing in Lean hashes anything: it is a label: what it is worth is what the hold of that sum in a sandbox is worth. -/
noncomputable def Try.pinned : Pinned := { name := "ytkjfcpdancjhmaa", sum := "f5789d0fd5f06f9105dad26a03964977a87dcfc07ab8fe4e353f5f78a9d35104", checked := Try.checked }
namespace Rows
def none {H : Type} : Left H := { results := [], args := [] }

/-- 'foolscaplaw31.InsertTypes': WHATEVER THE INPUT: true; the input reads as it did. -/
def insertTypesSpec : ChangeSpec := { name := "insertTypes", fn := fun _ => fun
  | [d1, d2, d3, d4, d5, d6, d7, d8, d9] => { results := [.lit (.bool true)], args := [d1, d2, d3, d4, d5, d6, d7, d8, d9] }
  | _ => none }
def insertTypesRow : OpenClaim := { program := "ytkjfcpdancjhmaa", sum := "f5789d0fd5f06f9105dad26a03964977a87dcfc07ab8fe4e353f5f78a9d35104", func := "foolscap/foolscaplaw31.InsertTypes", spec := "insertTypes", apart := false }
def InsertTypesSaid : Prop := insertTypesRow.holds Try.pinned (OpenSpec.ofChange insertTypesSpec)

/-- ITS FALSE NEIGHBOUR: 'it returns false'. Refute it at one input. -/
def insertTypesWrong : ChangeSpec := { name := "insertTypes", fn := fun _ => fun
  | [d1, d2, d3, d4, d5, d6, d7, d8, d9] => { results := [.lit (.bool false)], args := [d1, d2, d3, d4, d5, d6, d7, d8, d9] }
  | _ => none }
def InsertTypesWrongFalsely : Prop := insertTypesRow.holds Try.pinned (OpenSpec.ofChange insertTypesWrong)

/-- 'foolscaplaw31.InsertNets': WHATEVER THE INPUT: true; the input reads as it did. -/
def insertNetsSpec : ChangeSpec := { name := "insertNets", fn := fun _ => fun
  | [d1, d2, d3, d4] => { results := [.lit (.bool true)], args := [d1, d2, d3, d4] }
  | _ => none }
def insertNetsRow : OpenClaim := { program := "ytkjfcpdancjhmaa", sum := "f5789d0fd5f06f9105dad26a03964977a87dcfc07ab8fe4e353f5f78a9d35104", func := "foolscap/foolscaplaw31.InsertNets", spec := "insertNets", apart := false }
def InsertNetsSaid : Prop := insertNetsRow.holds Try.pinned (OpenSpec.ofChange insertNetsSpec)

/-- ITS FALSE NEIGHBOUR: 'it returns false'. Refute it at one input. -/
def insertNetsWrong : ChangeSpec := { name := "insertNets", fn := fun _ => fun
  | [d1, d2, d3, d4] => { results := [.lit (.bool false)], args := [d1, d2, d3, d4] }
  | _ => none }
def InsertNetsWrongFalsely : Prop := insertNetsRow.holds Try.pinned (OpenSpec.ofChange insertNetsWrong)

/-- 'foolscaplaw31.InsertText': WHATEVER THE INPUT: true; the input reads as it did. -/
def insertTextSpec : ChangeSpec := { name := "insertText", fn := fun _ => fun
  | [d1, d2, d3, d4] => { results := [.lit (.bool true)], args := [d1, d2, d3, d4] }
  | _ => none }
def insertTextRow : OpenClaim := { program := "ytkjfcpdancjhmaa", sum := "f5789d0fd5f06f9105dad26a03964977a87dcfc07ab8fe4e353f5f78a9d35104", func := "foolscap/foolscaplaw31.InsertText", spec := "insertText", apart := false }
def InsertTextSaid : Prop := insertTextRow.holds Try.pinned (OpenSpec.ofChange insertTextSpec)

/-- ITS FALSE NEIGHBOUR: 'it returns false'. Refute it at one input. -/
def insertTextWrong : ChangeSpec := { name := "insertText", fn := fun _ => fun
  | [d1, d2, d3, d4] => { results := [.lit (.bool false)], args := [d1, d2, d3, d4] }
  | _ => none }
def InsertTextWrongFalsely : Prop := insertTextRow.holds Try.pinned (OpenSpec.ofChange insertTextWrong)

/-- 'foolscaplaw31.InsertOver': WHATEVER THE INPUT: true; the input reads as it did. -/
def insertOverSpec : ChangeSpec := { name := "insertOver", fn := fun _ => fun
  | [d1, d2, d3, d4] => { results := [.lit (.bool true)], args := [d1, d2, d3, d4] }
  | _ => none }
def insertOverRow : OpenClaim := { program := "ytkjfcpdancjhmaa", sum := "f5789d0fd5f06f9105dad26a03964977a87dcfc07ab8fe4e353f5f78a9d35104", func := "foolscap/foolscaplaw31.InsertOver", spec := "insertOver", apart := false }
def InsertOverSaid : Prop := insertOverRow.holds Try.pinned (OpenSpec.ofChange insertOverSpec)

/-- ITS FALSE NEIGHBOUR: 'it returns false'. Refute it at one input. -/
def insertOverWrong : ChangeSpec := { name := "insertOver", fn := fun _ => fun
  | [d1, d2, d3, d4] => { results := [.lit (.bool false)], args := [d1, d2, d3, d4] }
  | _ => none }
def InsertOverWrongFalsely : Prop := insertOverRow.holds Try.pinned (OpenSpec.ofChange insertOverWrong)

/-- 'foolscaplaw31.InsertBreaks': WHATEVER THE INPUT: true; the input reads as it did. -/
def insertBreaksSpec : ChangeSpec := { name := "insertBreaks", fn := fun _ => fun
  | [d1, d2, d3, d4] => { results := [.lit (.bool true)], args := [d1, d2, d3, d4] }
  | _ => none }
def insertBreaksRow : OpenClaim := { program := "ytkjfcpdancjhmaa", sum := "f5789d0fd5f06f9105dad26a03964977a87dcfc07ab8fe4e353f5f78a9d35104", func := "foolscap/foolscaplaw31.InsertBreaks", spec := "insertBreaks", apart := false }
def InsertBreaksSaid : Prop := insertBreaksRow.holds Try.pinned (OpenSpec.ofChange insertBreaksSpec)

/-- ITS FALSE NEIGHBOUR: 'it returns false'. Refute it at one input. -/
def insertBreaksWrong : ChangeSpec := { name := "insertBreaks", fn := fun _ => fun
  | [d1, d2, d3, d4] => { results := [.lit (.bool false)], args := [d1, d2, d3, d4] }
  | _ => none }
def InsertBreaksWrongFalsely : Prop := insertBreaksRow.holds Try.pinned (OpenSpec.ofChange insertBreaksWrong)

/-- 'foolscaplaw31.InsertKeys': WHATEVER THE INPUT: true; the input reads as it did. -/
def insertKeysSpec : ChangeSpec := { name := "insertKeys", fn := fun _ => fun
  | [d1, d2, d3, d4, d5] => { results := [.lit (.bool true)], args := [d1, d2, d3, d4, d5] }
  | _ => none }
def insertKeysRow : OpenClaim := { program := "ytkjfcpdancjhmaa", sum := "f5789d0fd5f06f9105dad26a03964977a87dcfc07ab8fe4e353f5f78a9d35104", func := "foolscap/foolscaplaw31.InsertKeys", spec := "insertKeys", apart := false }
def InsertKeysSaid : Prop := insertKeysRow.holds Try.pinned (OpenSpec.ofChange insertKeysSpec)

/-- ITS FALSE NEIGHBOUR: 'it returns false'. Refute it at one input. -/
def insertKeysWrong : ChangeSpec := { name := "insertKeys", fn := fun _ => fun
  | [d1, d2, d3, d4, d5] => { results := [.lit (.bool false)], args := [d1, d2, d3, d4, d5] }
  | _ => none }
def InsertKeysWrongFalsely : Prop := insertKeysRow.holds Try.pinned (OpenSpec.ofChange insertKeysWrong)

/-- 'foolscaplaw8.WordsMark': WHATEVER THE INPUT: true; the input reads as it did. -/
def wordsMarkSpec : ChangeSpec := { name := "wordsMark", fn := fun _ => fun
  | [d1, d2, d3] => { results := [.lit (.bool true)], args := [d1, d2, d3] }
  | _ => none }
def wordsMarkRow : OpenClaim := { program := "ytkjfcpdancjhmaa", sum := "f5789d0fd5f06f9105dad26a03964977a87dcfc07ab8fe4e353f5f78a9d35104", func := "foolscap/foolscaplaw8.WordsMark", spec := "wordsMark", unfollowed := true, recurses := true, apart := false }
def WordsMarkSaid : Prop := wordsMarkRow.holds Try.pinned (OpenSpec.ofChange wordsMarkSpec)

/-- ITS FALSE NEIGHBOUR: 'it returns false'. Refute it at one input. -/
def wordsMarkWrong : ChangeSpec := { name := "wordsMark", fn := fun _ => fun
  | [d1, d2, d3] => { results := [.lit (.bool false)], args := [d1, d2, d3] }
  | _ => none }
def WordsMarkWrongFalsely : Prop := wordsMarkRow.holds Try.pinned (OpenSpec.ofChange wordsMarkWrong)

/-- 'foolscaplaw8.WordsSteps': WHATEVER THE INPUT: true; the input reads as it did. -/
def wordsStepsSpec : ChangeSpec := { name := "wordsSteps", fn := fun _ => fun
  | [d1, d2, d3, d4, d5] => { results := [.lit (.bool true)], args := [d1, d2, d3, d4, d5] }
  | _ => none }
def wordsStepsRow : OpenClaim := { program := "ytkjfcpdancjhmaa", sum := "f5789d0fd5f06f9105dad26a03964977a87dcfc07ab8fe4e353f5f78a9d35104", func := "foolscap/foolscaplaw8.WordsSteps", spec := "wordsSteps", unfollowed := true, recurses := true, apart := false }
def WordsStepsSaid : Prop := wordsStepsRow.holds Try.pinned (OpenSpec.ofChange wordsStepsSpec)

/-- ITS FALSE NEIGHBOUR: 'it returns false'. Refute it at one input. -/
def wordsStepsWrong : ChangeSpec := { name := "wordsSteps", fn := fun _ => fun
  | [d1, d2, d3, d4, d5] => { results := [.lit (.bool false)], args := [d1, d2, d3, d4, d5] }
  | _ => none }
def WordsStepsWrongFalsely : Prop := wordsStepsRow.holds Try.pinned (OpenSpec.ofChange wordsStepsWrong)

/-- 'foolscaplaw8.WordsInLine': WHATEVER THE INPUT: true; the input reads as it did. -/
def wordsInLineSpec : ChangeSpec := { name := "wordsInLine", fn := fun _ => fun
  | [d1, d2, d3, d4, d5] => { results := [.lit (.bool true)], args := [d1, d2, d3, d4, d5] }
  | _ => none }
def wordsInLineRow : OpenClaim := { program := "ytkjfcpdancjhmaa", sum := "f5789d0fd5f06f9105dad26a03964977a87dcfc07ab8fe4e353f5f78a9d35104", func := "foolscap/foolscaplaw8.WordsInLine", spec := "wordsInLine", unfollowed := true, recurses := true, apart := false }
def WordsInLineSaid : Prop := wordsInLineRow.holds Try.pinned (OpenSpec.ofChange wordsInLineSpec)

/-- ITS FALSE NEIGHBOUR: 'it returns false'. Refute it at one input. -/
def wordsInLineWrong : ChangeSpec := { name := "wordsInLine", fn := fun _ => fun
  | [d1, d2, d3, d4, d5] => { results := [.lit (.bool false)], args := [d1, d2, d3, d4, d5] }
  | _ => none }
def WordsInLineWrongFalsely : Prop := wordsInLineRow.holds Try.pinned (OpenSpec.ofChange wordsInLineWrong)

/-- 'foolscaplaw8.WordsBig': WHATEVER THE INPUT: true; the input reads as it did. -/
def wordsBigSpec : ChangeSpec := { name := "wordsBig", fn := fun _ => fun
  | [d1, d2, d3] => { results := [.lit (.bool true)], args := [d1, d2, d3] }
  | _ => none }
def wordsBigRow : OpenClaim := { program := "ytkjfcpdancjhmaa", sum := "f5789d0fd5f06f9105dad26a03964977a87dcfc07ab8fe4e353f5f78a9d35104", func := "foolscap/foolscaplaw8.WordsBig", spec := "wordsBig", unfollowed := true, recurses := true, apart := false }
def WordsBigSaid : Prop := wordsBigRow.holds Try.pinned (OpenSpec.ofChange wordsBigSpec)

/-- ITS FALSE NEIGHBOUR: 'it returns false'. Refute it at one input. -/
def wordsBigWrong : ChangeSpec := { name := "wordsBig", fn := fun _ => fun
  | [d1, d2, d3] => { results := [.lit (.bool false)], args := [d1, d2, d3] }
  | _ => none }
def WordsBigWrongFalsely : Prop := wordsBigRow.holds Try.pinned (OpenSpec.ofChange wordsBigWrong)

/-- 'foolscaplaw8.WordsMove': WHATEVER THE INPUT: true; the input reads as it did. -/
def wordsMoveSpec : ChangeSpec := { name := "wordsMove", fn := fun _ => fun
  | [d1, d2, d3, d4, d5, d6, d7] => { results := [.lit (.bool true)], args := [d1, d2, d3, d4, d5, d6, d7] }
  | _ => none }
def wordsMoveRow : OpenClaim := { program := "ytkjfcpdancjhmaa", sum := "f5789d0fd5f06f9105dad26a03964977a87dcfc07ab8fe4e353f5f78a9d35104", func := "foolscap/foolscaplaw8.WordsMove", spec := "wordsMove", unfollowed := true, recurses := true, apart := false }
def WordsMoveSaid : Prop := wordsMoveRow.holds Try.pinned (OpenSpec.ofChange wordsMoveSpec)

/-- ITS FALSE NEIGHBOUR: 'it returns false'. Refute it at one input. -/
def wordsMoveWrong : ChangeSpec := { name := "wordsMove", fn := fun _ => fun
  | [d1, d2, d3, d4, d5, d6, d7] => { results := [.lit (.bool false)], args := [d1, d2, d3, d4, d5, d6, d7] }
  | _ => none }
def WordsMoveWrongFalsely : Prop := wordsMoveRow.holds Try.pinned (OpenSpec.ofChange wordsMoveWrong)

/-- 'foolscaplaw31.InsertBeside': WHATEVER THE INPUT: true; the input reads as it did. -/
def insertBesideSpec : ChangeSpec := { name := "insertBeside", fn := fun _ => fun
  | [d1, d2, d3, d4, d5, d6] => { results := [.lit (.bool true)], args := [d1, d2, d3, d4, d5, d6] }
  | _ => none }
def insertBesideRow : OpenClaim := { program := "ytkjfcpdancjhmaa", sum := "f5789d0fd5f06f9105dad26a03964977a87dcfc07ab8fe4e353f5f78a9d35104", func := "foolscap/foolscaplaw31.InsertBeside", spec := "insertBeside", inPlace := ["internal/bytealg.IndexByteString", "internal/bytealg.IndexString", "internal/abi.NoEscape", "internal/bytealg.MakeNoZero"], named := ["internal/bytealg.MaxLen"], apart := false }
def InsertBesideSaid : Prop := insertBesideRow.holds Try.pinned (OpenSpec.ofChange insertBesideSpec)

/-- ITS FALSE NEIGHBOUR: 'it returns false'. Refute it at one input. -/
def insertBesideWrong : ChangeSpec := { name := "insertBeside", fn := fun _ => fun
  | [d1, d2, d3, d4, d5, d6] => { results := [.lit (.bool false)], args := [d1, d2, d3, d4, d5, d6] }
  | _ => none }
def InsertBesideWrongFalsely : Prop := insertBesideRow.holds Try.pinned (OpenSpec.ofChange insertBesideWrong)

/- THE SECOND FORM. 'bulk': how many values and letters a reading holds, each counted each time it is reached (what is shared counts as often as it is met; a slice's spare places count too). A statement '..UptoSaid' is the law's where the arguments, and the package variables that the reading takes, are together of bulk at most 1048576: NARROWER than '..Said'. Prove '..Said' where nothing that the law and all that it calls make is longer than what came in: it says more and counts as full. Else prove '..UptoSaid'. A law counts once. -/
mutual
def uptoBulk {H : Type} : DataW H → Nat
  | .lit (.string bytes) => bytes.length + 1
  | .lit _ => 1
  | .nil => 1
  | .ptr d => uptoBulk d + 1
  | .slice elems spare => uptoBulkAll elems + uptoBulkAll spare + 1
  | .agg parts => uptoBulkAll parts + 1
  | .iface _ d => uptoBulk d + 1
  | .map entries => uptoBulkEntries entries + 1
  | .held _ => 1
def uptoBulkAll {H : Type} : List (DataW H) → Nat
  | [] => 0
  | d :: r => uptoBulk d + uptoBulkAll r
def uptoBulkEntries {H : Type} : List (Lit × DataW H) → Nat
  | [] => 0
  | x :: r => uptoBulkEntry x + uptoBulkEntries r
def uptoBulkEntry {H : Type} : Lit × DataW H → Nat
  | (.string bytes, d) => bytes.length + uptoBulk d + 1
  | (_, d) => uptoBulk d + 1
 end
def uptoSmall : (H : Type) → List (DataW H) → Bool := fun _ ds => decide (uptoBulkAll ds ≤ 1048576)
def OpenSpec.upto (s : _root_.Go.ChangeSpec) : _root_.Go.OpenSpec := { _root_.Go.OpenSpec.ofChange s with cond := some uptoSmall }

/-- 'foolscaplaw31.InsertTypes', WHERE WHAT IT READS IS OF BULK AT MOST 1048576: true; the input reads as it did. -/
def insertTypesUptoRow : OpenClaim := { program := "ytkjfcpdancjhmaa", sum := "f5789d0fd5f06f9105dad26a03964977a87dcfc07ab8fe4e353f5f78a9d35104", func := "foolscap/foolscaplaw31.InsertTypes", spec := "insertTypes", apart := false, narrowed := true }
def InsertTypesUptoSaid : Prop := insertTypesUptoRow.holds Try.pinned (OpenSpec.upto insertTypesSpec)

/-- 'foolscaplaw31.InsertNets', WHERE WHAT IT READS IS OF BULK AT MOST 1048576: true; the input reads as it did. -/
def insertNetsUptoRow : OpenClaim := { program := "ytkjfcpdancjhmaa", sum := "f5789d0fd5f06f9105dad26a03964977a87dcfc07ab8fe4e353f5f78a9d35104", func := "foolscap/foolscaplaw31.InsertNets", spec := "insertNets", apart := false, narrowed := true }
def InsertNetsUptoSaid : Prop := insertNetsUptoRow.holds Try.pinned (OpenSpec.upto insertNetsSpec)

/-- 'foolscaplaw31.InsertText', WHERE WHAT IT READS IS OF BULK AT MOST 1048576: true; the input reads as it did. -/
def insertTextUptoRow : OpenClaim := { program := "ytkjfcpdancjhmaa", sum := "f5789d0fd5f06f9105dad26a03964977a87dcfc07ab8fe4e353f5f78a9d35104", func := "foolscap/foolscaplaw31.InsertText", spec := "insertText", apart := false, narrowed := true }
def InsertTextUptoSaid : Prop := insertTextUptoRow.holds Try.pinned (OpenSpec.upto insertTextSpec)

/-- 'foolscaplaw31.InsertOver', WHERE WHAT IT READS IS OF BULK AT MOST 1048576: true; the input reads as it did. -/
def insertOverUptoRow : OpenClaim := { program := "ytkjfcpdancjhmaa", sum := "f5789d0fd5f06f9105dad26a03964977a87dcfc07ab8fe4e353f5f78a9d35104", func := "foolscap/foolscaplaw31.InsertOver", spec := "insertOver", apart := false, narrowed := true }
def InsertOverUptoSaid : Prop := insertOverUptoRow.holds Try.pinned (OpenSpec.upto insertOverSpec)

/-- 'foolscaplaw31.InsertBreaks', WHERE WHAT IT READS IS OF BULK AT MOST 1048576: true; the input reads as it did. -/
def insertBreaksUptoRow : OpenClaim := { program := "ytkjfcpdancjhmaa", sum := "f5789d0fd5f06f9105dad26a03964977a87dcfc07ab8fe4e353f5f78a9d35104", func := "foolscap/foolscaplaw31.InsertBreaks", spec := "insertBreaks", apart := false, narrowed := true }
def InsertBreaksUptoSaid : Prop := insertBreaksUptoRow.holds Try.pinned (OpenSpec.upto insertBreaksSpec)

/-- 'foolscaplaw31.InsertKeys', WHERE WHAT IT READS IS OF BULK AT MOST 1048576: true; the input reads as it did. -/
def insertKeysUptoRow : OpenClaim := { program := "ytkjfcpdancjhmaa", sum := "f5789d0fd5f06f9105dad26a03964977a87dcfc07ab8fe4e353f5f78a9d35104", func := "foolscap/foolscaplaw31.InsertKeys", spec := "insertKeys", apart := false, narrowed := true }
def InsertKeysUptoSaid : Prop := insertKeysUptoRow.holds Try.pinned (OpenSpec.upto insertKeysSpec)

/-- 'foolscaplaw8.WordsMark', WHERE WHAT IT READS IS OF BULK AT MOST 1048576: true; the input reads as it did. -/
def wordsMarkUptoRow : OpenClaim := { program := "ytkjfcpdancjhmaa", sum := "f5789d0fd5f06f9105dad26a03964977a87dcfc07ab8fe4e353f5f78a9d35104", func := "foolscap/foolscaplaw8.WordsMark", spec := "wordsMark", unfollowed := true, recurses := true, apart := false, narrowed := true }
def WordsMarkUptoSaid : Prop := wordsMarkUptoRow.holds Try.pinned (OpenSpec.upto wordsMarkSpec)

/-- 'foolscaplaw8.WordsSteps', WHERE WHAT IT READS IS OF BULK AT MOST 1048576: true; the input reads as it did. -/
def wordsStepsUptoRow : OpenClaim := { program := "ytkjfcpdancjhmaa", sum := "f5789d0fd5f06f9105dad26a03964977a87dcfc07ab8fe4e353f5f78a9d35104", func := "foolscap/foolscaplaw8.WordsSteps", spec := "wordsSteps", unfollowed := true, recurses := true, apart := false, narrowed := true }
def WordsStepsUptoSaid : Prop := wordsStepsUptoRow.holds Try.pinned (OpenSpec.upto wordsStepsSpec)

/-- 'foolscaplaw8.WordsInLine', WHERE WHAT IT READS IS OF BULK AT MOST 1048576: true; the input reads as it did. -/
def wordsInLineUptoRow : OpenClaim := { program := "ytkjfcpdancjhmaa", sum := "f5789d0fd5f06f9105dad26a03964977a87dcfc07ab8fe4e353f5f78a9d35104", func := "foolscap/foolscaplaw8.WordsInLine", spec := "wordsInLine", unfollowed := true, recurses := true, apart := false, narrowed := true }
def WordsInLineUptoSaid : Prop := wordsInLineUptoRow.holds Try.pinned (OpenSpec.upto wordsInLineSpec)

/-- 'foolscaplaw8.WordsBig', WHERE WHAT IT READS IS OF BULK AT MOST 1048576: true; the input reads as it did. -/
def wordsBigUptoRow : OpenClaim := { program := "ytkjfcpdancjhmaa", sum := "f5789d0fd5f06f9105dad26a03964977a87dcfc07ab8fe4e353f5f78a9d35104", func := "foolscap/foolscaplaw8.WordsBig", spec := "wordsBig", unfollowed := true, recurses := true, apart := false, narrowed := true }
def WordsBigUptoSaid : Prop := wordsBigUptoRow.holds Try.pinned (OpenSpec.upto wordsBigSpec)

/-- 'foolscaplaw8.WordsMove', WHERE WHAT IT READS IS OF BULK AT MOST 1048576: true; the input reads as it did. -/
def wordsMoveUptoRow : OpenClaim := { program := "ytkjfcpdancjhmaa", sum := "f5789d0fd5f06f9105dad26a03964977a87dcfc07ab8fe4e353f5f78a9d35104", func := "foolscap/foolscaplaw8.WordsMove", spec := "wordsMove", unfollowed := true, recurses := true, apart := false, narrowed := true }
def WordsMoveUptoSaid : Prop := wordsMoveUptoRow.holds Try.pinned (OpenSpec.upto wordsMoveSpec)

/-- 'foolscaplaw31.InsertBeside', WHERE WHAT IT READS IS OF BULK AT MOST 1048576: true; the input reads as it did. -/
def insertBesideUptoRow : OpenClaim := { program := "ytkjfcpdancjhmaa", sum := "f5789d0fd5f06f9105dad26a03964977a87dcfc07ab8fe4e353f5f78a9d35104", func := "foolscap/foolscaplaw31.InsertBeside", spec := "insertBeside", inPlace := ["internal/bytealg.IndexByteString", "internal/bytealg.IndexString", "internal/abi.NoEscape", "internal/bytealg.MakeNoZero"], named := ["internal/bytealg.MaxLen"], apart := false, narrowed := true }
def InsertBesideUptoSaid : Prop := insertBesideUptoRow.holds Try.pinned (OpenSpec.upto insertBesideSpec)

end Rows
end Go.Proofs.Ytkjfcpdancjhmaa
