/-
  No cell of these rows narrows 'for every input' (looked for: loops, veiled, ifaces, maps, wideKeys, modest, calm, conditions, laid).
  DERIVED. THE GIVEN ROWS OF THIS SEAT. 5 by the template 'for every input the law returns true; each argument reads behind the call as it read before'; 0 by the template 'total and deterministic' (their statements: YtnnhelhadcfbcaaTotals.lean).
  GIVEN WITH THE SEED: the statements are not yours to turn. If you find one false, say at which input.
  Laid BY PROGRAM, IN A SANDBOX (cutbox-rows.mjs): the forced cells as the released guide's own fill.sh prints them over the translation ae86cdbc97aa257e… (all of the seat's roots in one cut). By AI agents, Wed Nov 11 2026. No macro, syntax, notation, axiom, sorry.
-/
import Derived.Test.YtnnhelhadcfbcaaChecked
import GoSem.Claim
import GoSem.ClaimJoined
import GoSem.ClaimMapViews
import Derived.JoinedTies
import Derived.KernelRfl
namespace Go.Proofs.Ytnnhelhadcfbcaa
/- THE CELL 'sum', in the pinned program and in every row, IS THE sha256 OF THE DUMP (.gsa) THAT YtnnhelhadcfbcaaProg.lean LOADS. Nothing in Lean hashes anything: it is a label: what it is worth is what the hold of that sum in a sandbox is worth. -/
noncomputable def Try.pinned : Pinned := { name := "ytnnhelhadcfbcaa", sum := "ae86cdbc97aa257e1d677ba536d89de5acc016af869c40009aba8af305b31a1f", checked := Try.checked }
namespace Rows
def none {H : Type} : Left H := { results := [], args := [] }

/-- 'foolscaplaw8.WordsMark': WHATEVER THE INPUT: true; the input reads as it did. -/
def wordsMarkSpec : ChangeSpec := { name := "wordsMark", fn := fun _ => fun
  | [d1, d2, d3] => { results := [.lit (.bool true)], args := [d1, d2, d3] }
  | _ => none }
def wordsMarkRow : OpenClaim := { program := "ytnnhelhadcfbcaa", sum := "ae86cdbc97aa257e1d677ba536d89de5acc016af869c40009aba8af305b31a1f", func := "foolscap/foolscaplaw8.WordsMark", spec := "wordsMark", unfollowed := true, recurses := true, apart := false }
def WordsMarkSaid : Prop := wordsMarkRow.holds Try.pinned (OpenSpec.ofChange wordsMarkSpec)

/-- ITS FALSE NEIGHBOUR: 'it returns false'. Refute it at one input. -/
def wordsMarkWrong : ChangeSpec := { name := "wordsMark", fn := fun _ => fun
  | [d1, d2, d3] => { results := [.lit (.bool false)], args := [d1, d2, d3] }
  | _ => none }
def WordsMarkWrongFalsely : Prop := wordsMarkRow.holds Try.pinned (OpenSpec.ofChange wordsMarkWrong)

/-- 'foolscaplaw8.WordsSteps': WHATEVER THE INPUT: true; the input reads as it did. -/
def wordsStepsSpec : ChangeSpec := { name := "wordsSteps", fn := fun _ => fun
  | [d1, d2, d3, d4, d5] => { results := [.lit (.bool true)], args := [d1, d2, d3, d4, d5] }
  | _ => none }
def wordsStepsRow : OpenClaim := { program := "ytnnhelhadcfbcaa", sum := "ae86cdbc97aa257e1d677ba536d89de5acc016af869c40009aba8af305b31a1f", func := "foolscap/foolscaplaw8.WordsSteps", spec := "wordsSteps", unfollowed := true, recurses := true, apart := false }
def WordsStepsSaid : Prop := wordsStepsRow.holds Try.pinned (OpenSpec.ofChange wordsStepsSpec)

/-- ITS FALSE NEIGHBOUR: 'it returns false'. Refute it at one input. -/
def wordsStepsWrong : ChangeSpec := { name := "wordsSteps", fn := fun _ => fun
  | [d1, d2, d3, d4, d5] => { results := [.lit (.bool false)], args := [d1, d2, d3, d4, d5] }
  | _ => none }
def WordsStepsWrongFalsely : Prop := wordsStepsRow.holds Try.pinned (OpenSpec.ofChange wordsStepsWrong)

/-- 'foolscaplaw8.WordsInLine': WHATEVER THE INPUT: true; the input reads as it did. -/
def wordsInLineSpec : ChangeSpec := { name := "wordsInLine", fn := fun _ => fun
  | [d1, d2, d3, d4, d5] => { results := [.lit (.bool true)], args := [d1, d2, d3, d4, d5] }
  | _ => none }
def wordsInLineRow : OpenClaim := { program := "ytnnhelhadcfbcaa", sum := "ae86cdbc97aa257e1d677ba536d89de5acc016af869c40009aba8af305b31a1f", func := "foolscap/foolscaplaw8.WordsInLine", spec := "wordsInLine", unfollowed := true, recurses := true, apart := false }
def WordsInLineSaid : Prop := wordsInLineRow.holds Try.pinned (OpenSpec.ofChange wordsInLineSpec)

/-- ITS FALSE NEIGHBOUR: 'it returns false'. Refute it at one input. -/
def wordsInLineWrong : ChangeSpec := { name := "wordsInLine", fn := fun _ => fun
  | [d1, d2, d3, d4, d5] => { results := [.lit (.bool false)], args := [d1, d2, d3, d4, d5] }
  | _ => none }
def WordsInLineWrongFalsely : Prop := wordsInLineRow.holds Try.pinned (OpenSpec.ofChange wordsInLineWrong)

/-- 'foolscaplaw8.WordsBig': WHATEVER THE INPUT: true; the input reads as it did. -/
def wordsBigSpec : ChangeSpec := { name := "wordsBig", fn := fun _ => fun
  | [d1, d2, d3] => { results := [.lit (.bool true)], args := [d1, d2, d3] }
  | _ => none }
def wordsBigRow : OpenClaim := { program := "ytnnhelhadcfbcaa", sum := "ae86cdbc97aa257e1d677ba536d89de5acc016af869c40009aba8af305b31a1f", func := "foolscap/foolscaplaw8.WordsBig", spec := "wordsBig", unfollowed := true, recurses := true, apart := false }
def WordsBigSaid : Prop := wordsBigRow.holds Try.pinned (OpenSpec.ofChange wordsBigSpec)

/-- ITS FALSE NEIGHBOUR: 'it returns false'. Refute it at one input. -/
def wordsBigWrong : ChangeSpec := { name := "wordsBig", fn := fun _ => fun
  | [d1, d2, d3] => { results := [.lit (.bool false)], args := [d1, d2, d3] }
  | _ => none }
def WordsBigWrongFalsely : Prop := wordsBigRow.holds Try.pinned (OpenSpec.ofChange wordsBigWrong)

/-- 'foolscaplaw8.WordsMove': WHATEVER THE INPUT: true; the input reads as it did. -/
def wordsMoveSpec : ChangeSpec := { name := "wordsMove", fn := fun _ => fun
  | [d1, d2, d3, d4, d5, d6, d7] => { results := [.lit (.bool true)], args := [d1, d2, d3, d4, d5, d6, d7] }
  | _ => none }
def wordsMoveRow : OpenClaim := { program := "ytnnhelhadcfbcaa", sum := "ae86cdbc97aa257e1d677ba536d89de5acc016af869c40009aba8af305b31a1f", func := "foolscap/foolscaplaw8.WordsMove", spec := "wordsMove", unfollowed := true, recurses := true, apart := false }
def WordsMoveSaid : Prop := wordsMoveRow.holds Try.pinned (OpenSpec.ofChange wordsMoveSpec)

/-- ITS FALSE NEIGHBOUR: 'it returns false'. Refute it at one input. -/
def wordsMoveWrong : ChangeSpec := { name := "wordsMove", fn := fun _ => fun
  | [d1, d2, d3, d4, d5, d6, d7] => { results := [.lit (.bool false)], args := [d1, d2, d3, d4, d5, d6, d7] }
  | _ => none }
def WordsMoveWrongFalsely : Prop := wordsMoveRow.holds Try.pinned (OpenSpec.ofChange wordsMoveWrong)

/- THE SECOND FORM. 'bulk': how many values and letters a reading holds, each counted each time it is reached (what is shared counts as often as it is met; a slice's spare places count too). A statement '..UptoSaid' is the law's where the arguments, and the package variables that the reading takes, are together of bulk at most 1048576: NARROWER than '..Said'. Prove '..Said' where nothing that the law and all that it calls make is longer than what came in: it says more and counts as full. Else prove '..UptoSaid'. A law counts once. -/
mutual
def uptoBulk {H : Type} : DataW H → Nat
  | .lit (.string bytes) => bytes.length + 1
  | .lit _ => 1
  | .nil => 1
  | .ptr d => uptoBulk d + 1
  | .slice elems spare => uptoBulkAll elems + uptoBulkAll spare + 1
  | .agg parts => uptoBulkAll parts + 1
  | .iface _ d => uptoBulk d + 1
  | .map entries => uptoBulkEntries entries + 1
  | .held _ => 1
def uptoBulkAll {H : Type} : List (DataW H) → Nat
  | [] => 0
  | d :: r => uptoBulk d + uptoBulkAll r
def uptoBulkEntries {H : Type} : List (Lit × DataW H) → Nat
  | [] => 0
  | x :: r => uptoBulkEntry x + uptoBulkEntries r
def uptoBulkEntry {H : Type} : Lit × DataW H → Nat
  | (.string bytes, d) => bytes.length + uptoBulk d + 1
  | (_, d) => uptoBulk d + 1
 end
def uptoSmall : (H : Type) → List (DataW H) → Bool := fun _ ds => decide (uptoBulkAll ds ≤ 1048576)
def OpenSpec.upto (s : _root_.Go.ChangeSpec) : _root_.Go.OpenSpec := { _root_.Go.OpenSpec.ofChange s with cond := some uptoSmall }

/-- 'foolscaplaw8.WordsMark', WHERE WHAT IT READS IS OF BULK AT MOST 1048576: true; the input reads as it did. -/
def wordsMarkUptoRow : OpenClaim := { program := "ytnnhelhadcfbcaa", sum := "ae86cdbc97aa257e1d677ba536d89de5acc016af869c40009aba8af305b31a1f", func := "foolscap/foolscaplaw8.WordsMark", spec := "wordsMark", unfollowed := true, recurses := true, apart := false, narrowed := true }
def WordsMarkUptoSaid : Prop := wordsMarkUptoRow.holds Try.pinned (OpenSpec.upto wordsMarkSpec)

/-- 'foolscaplaw8.WordsSteps', WHERE WHAT IT READS IS OF BULK AT MOST 1048576: true; the input reads as it did. -/
def wordsStepsUptoRow : OpenClaim := { program := "ytnnhelhadcfbcaa", sum := "ae86cdbc97aa257e1d677ba536d89de5acc016af869c40009aba8af305b31a1f", func := "foolscap/foolscaplaw8.WordsSteps", spec := "wordsSteps", unfollowed := true, recurses := true, apart := false, narrowed := true }
def WordsStepsUptoSaid : Prop := wordsStepsUptoRow.holds Try.pinned (OpenSpec.upto wordsStepsSpec)

/-- 'foolscaplaw8.WordsInLine', WHERE WHAT IT READS IS OF BULK AT MOST 1048576: true; the input reads as it did. -/
def wordsInLineUptoRow : OpenClaim := { program := "ytnnhelhadcfbcaa", sum := "ae86cdbc97aa257e1d677ba536d89de5acc016af869c40009aba8af305b31a1f", func := "foolscap/foolscaplaw8.WordsInLine", spec := "wordsInLine", unfollowed := true, recurses := true, apart := false, narrowed := true }
def WordsInLineUptoSaid : Prop := wordsInLineUptoRow.holds Try.pinned (OpenSpec.upto wordsInLineSpec)

/-- 'foolscaplaw8.WordsBig', WHERE WHAT IT READS IS OF BULK AT MOST 1048576: true; the input reads as it did. -/
def wordsBigUptoRow : OpenClaim := { program := "ytnnhelhadcfbcaa", sum := "ae86cdbc97aa257e1d677ba536d89de5acc016af869c40009aba8af305b31a1f", func := "foolscap/foolscaplaw8.WordsBig", spec := "wordsBig", unfollowed := true, recurses := true, apart := false, narrowed := true }
def WordsBigUptoSaid : Prop := wordsBigUptoRow.holds Try.pinned (OpenSpec.upto wordsBigSpec)

/-- 'foolscaplaw8.WordsMove', WHERE WHAT IT READS IS OF BULK AT MOST 1048576: true; the input reads as it did. -/
def wordsMoveUptoRow : OpenClaim := { program := "ytnnhelhadcfbcaa", sum := "ae86cdbc97aa257e1d677ba536d89de5acc016af869c40009aba8af305b31a1f", func := "foolscap/foolscaplaw8.WordsMove", spec := "wordsMove", unfollowed := true, recurses := true, apart := false, narrowed := true }
def WordsMoveUptoSaid : Prop := wordsMoveUptoRow.holds Try.pinned (OpenSpec.upto wordsMoveSpec)

end Rows
end Go.Proofs.Ytnnhelhadcfbcaa
