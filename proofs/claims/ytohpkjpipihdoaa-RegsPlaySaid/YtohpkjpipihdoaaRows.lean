/-
  No cell of these rows narrows 'for every input' (looked for: loops, veiled, ifaces, maps, wideKeys, modest, calm, conditions, laid).
  DERIVED. THE GIVEN ROWS OF THIS SEAT. 12 by the template 'for every input the law returns true; each argument reads behind the call as it read before'; 0 by the template 'total and deterministic' (their statements: YtohpkjpipihdoaaTotals.lean).
  GIVEN WITH THE SEED: the statements are not yours to turn. If you find one false, say at which input.
  Laid BY PROGRAM, IN A SANDBOX (cutbox-rows.mjs): the forced cells as the released guide's own fill.sh prints them over the translation 373f8dc718dfd029… (all of the seat's roots in one cut). By AI agents, Wed Nov 11 2026. No macro, syntax, notation, axiom, sorry.
-/
import Derived.Test.YtohpkjpipihdoaaChecked
import GoSem.Claim
import GoSem.ClaimJoined
import GoSem.ClaimMapViews
import Derived.JoinedTies
import Derived.KernelRfl
namespace Go.Proofs.Ytohpkjpipihdoaa
/- THE CELL 'sum', in the pinned program and in every row, IS THE sha256 OF THE DUMP (.gsa) THAT YtohpkjpipihdoaaProg.lean LOADS. Nothing in Lean hashes anything: it is a label: what it is worth is what the hold of that sum in a sandbox is worth. -/
noncomputable def Try.pinned : Pinned := { name := "ytohpkjpipihdoaa", sum := "373f8dc718dfd02955035ff14e8164e25789db1a654aa97a526fc8d67f8eb65c", checked := Try.checked }
namespace Rows
def none {H : Type} : Left H := { results := [], args := [] }

/-- 'foolscaplaw13.MarksShift': WHATEVER THE INPUT: true; the input reads as it did. -/
def marksShiftSpec : ChangeSpec := { name := "marksShift", fn := fun _ => fun
  | [d1, d2, d3, d4] => { results := [.lit (.bool true)], args := [d1, d2, d3, d4] }
  | _ => none }
def marksShiftRow : OpenClaim := { program := "ytohpkjpipihdoaa", sum := "373f8dc718dfd02955035ff14e8164e25789db1a654aa97a526fc8d67f8eb65c", func := "foolscap/foolscaplaw13.MarksShift", spec := "marksShift", inPlace := ["maps.clone"], unfollowed := true, recurses := true, apart := false }
def MarksShiftSaid : Prop := marksShiftRow.holds Try.pinned (OpenSpec.ofChange marksShiftSpec)

/-- ITS FALSE NEIGHBOUR: 'it returns false'. Refute it at one input. -/
def marksShiftWrong : ChangeSpec := { name := "marksShift", fn := fun _ => fun
  | [d1, d2, d3, d4] => { results := [.lit (.bool false)], args := [d1, d2, d3, d4] }
  | _ => none }
def MarksShiftWrongFalsely : Prop := marksShiftRow.holds Try.pinned (OpenSpec.ofChange marksShiftWrong)

/-- 'foolscaplaw13.MarksPlay': WHATEVER THE INPUT: true; the input reads as it did. -/
def marksPlaySpec : ChangeSpec := { name := "marksPlay", fn := fun _ => fun
  | [d1, d2] => { results := [.lit (.bool true)], args := [d1, d2] }
  | _ => none }
def marksPlayRow : OpenClaim := { program := "ytohpkjpipihdoaa", sum := "373f8dc718dfd02955035ff14e8164e25789db1a654aa97a526fc8d67f8eb65c", func := "foolscap/foolscaplaw13.MarksPlay", spec := "marksPlay", inPlace := ["maps.clone"], unfollowed := true, recurses := true, apart := false }
def MarksPlaySaid : Prop := marksPlayRow.holds Try.pinned (OpenSpec.ofChange marksPlaySpec)

/-- ITS FALSE NEIGHBOUR: 'it returns false'. Refute it at one input. -/
def marksPlayWrong : ChangeSpec := { name := "marksPlay", fn := fun _ => fun
  | [d1, d2] => { results := [.lit (.bool false)], args := [d1, d2] }
  | _ => none }
def MarksPlayWrongFalsely : Prop := marksPlayRow.holds Try.pinned (OpenSpec.ofChange marksPlayWrong)

/-- 'foolscaplaw13.MarksStay': WHATEVER THE INPUT: true; the input reads as it did. -/
def marksStaySpec : ChangeSpec := { name := "marksStay", fn := fun _ => fun
  | [d1, d2, d3, d4] => { results := [.lit (.bool true)], args := [d1, d2, d3, d4] }
  | _ => none }
def marksStayRow : OpenClaim := { program := "ytohpkjpipihdoaa", sum := "373f8dc718dfd02955035ff14e8164e25789db1a654aa97a526fc8d67f8eb65c", func := "foolscap/foolscaplaw13.MarksStay", spec := "marksStay", inPlace := ["maps.clone"], unfollowed := true, recurses := true, apart := false }
def MarksStaySaid : Prop := marksStayRow.holds Try.pinned (OpenSpec.ofChange marksStaySpec)

/-- ITS FALSE NEIGHBOUR: 'it returns false'. Refute it at one input. -/
def marksStayWrong : ChangeSpec := { name := "marksStay", fn := fun _ => fun
  | [d1, d2, d3, d4] => { results := [.lit (.bool false)], args := [d1, d2, d3, d4] }
  | _ => none }
def MarksStayWrongFalsely : Prop := marksStayRow.holds Try.pinned (OpenSpec.ofChange marksStayWrong)

/-- 'foolscaplaw13.MarksLines': WHATEVER THE INPUT: true; the input reads as it did. -/
def marksLinesSpec : ChangeSpec := { name := "marksLines", fn := fun _ => fun
  | [d1, d2, d3, d4] => { results := [.lit (.bool true)], args := [d1, d2, d3, d4] }
  | _ => none }
def marksLinesRow : OpenClaim := { program := "ytohpkjpipihdoaa", sum := "373f8dc718dfd02955035ff14e8164e25789db1a654aa97a526fc8d67f8eb65c", func := "foolscap/foolscaplaw13.MarksLines", spec := "marksLines", inPlace := ["maps.clone"], unfollowed := true, recurses := true, apart := false }
def MarksLinesSaid : Prop := marksLinesRow.holds Try.pinned (OpenSpec.ofChange marksLinesSpec)

/-- ITS FALSE NEIGHBOUR: 'it returns false'. Refute it at one input. -/
def marksLinesWrong : ChangeSpec := { name := "marksLines", fn := fun _ => fun
  | [d1, d2, d3, d4] => { results := [.lit (.bool false)], args := [d1, d2, d3, d4] }
  | _ => none }
def MarksLinesWrongFalsely : Prop := marksLinesRow.holds Try.pinned (OpenSpec.ofChange marksLinesWrong)

/-- 'foolscaplaw13.MarksNames': WHATEVER THE INPUT: true; the input reads as it did. -/
def marksNamesSpec : ChangeSpec := { name := "marksNames", fn := fun _ => fun
  | [d] => { results := [.lit (.bool true)], args := [d] }
  | _ => none }
def marksNamesRow : OpenClaim := { program := "ytohpkjpipihdoaa", sum := "373f8dc718dfd02955035ff14e8164e25789db1a654aa97a526fc8d67f8eb65c", func := "foolscap/foolscaplaw13.MarksNames", spec := "marksNames", inPlace := ["maps.clone"], unfollowed := true, recurses := true, apart := false }
def MarksNamesSaid : Prop := marksNamesRow.holds Try.pinned (OpenSpec.ofChange marksNamesSpec)

/-- ITS FALSE NEIGHBOUR: 'it returns false'. Refute it at one input. -/
def marksNamesWrong : ChangeSpec := { name := "marksNames", fn := fun _ => fun
  | [d] => { results := [.lit (.bool false)], args := [d] }
  | _ => none }
def MarksNamesWrongFalsely : Prop := marksNamesRow.holds Try.pinned (OpenSpec.ofChange marksNamesWrong)

/-- 'foolscaplaw19.RegsJoin': WHATEVER THE INPUT: true; the input reads as it did. -/
def regsJoinSpec : ChangeSpec := { name := "regsJoin", fn := fun _ => fun
  | [d1, d2] => { results := [.lit (.bool true)], args := [d1, d2] }
  | _ => none }
def regsJoinRow : OpenClaim := { program := "ytohpkjpipihdoaa", sum := "373f8dc718dfd02955035ff14e8164e25789db1a654aa97a526fc8d67f8eb65c", func := "foolscap/foolscaplaw19.RegsJoin", spec := "regsJoin", unfollowed := true, recurses := true, apart := false }
def RegsJoinSaid : Prop := regsJoinRow.holds Try.pinned (OpenSpec.ofChange regsJoinSpec)

/-- ITS FALSE NEIGHBOUR: 'it returns false'. Refute it at one input. -/
def regsJoinWrong : ChangeSpec := { name := "regsJoin", fn := fun _ => fun
  | [d1, d2] => { results := [.lit (.bool false)], args := [d1, d2] }
  | _ => none }
def RegsJoinWrongFalsely : Prop := regsJoinRow.holds Try.pinned (OpenSpec.ofChange regsJoinWrong)

/-- 'foolscaplaw19.RegsShift': WHATEVER THE INPUT: true; the input reads as it did. -/
def regsShiftSpec : ChangeSpec := { name := "regsShift", fn := fun _ => fun
  | [d1, d2] => { results := [.lit (.bool true)], args := [d1, d2] }
  | _ => none }
def regsShiftRow : OpenClaim := { program := "ytohpkjpipihdoaa", sum := "373f8dc718dfd02955035ff14e8164e25789db1a654aa97a526fc8d67f8eb65c", func := "foolscap/foolscaplaw19.RegsShift", spec := "regsShift", unfollowed := true, recurses := true, apart := false }
def RegsShiftSaid : Prop := regsShiftRow.holds Try.pinned (OpenSpec.ofChange regsShiftSpec)

/-- ITS FALSE NEIGHBOUR: 'it returns false'. Refute it at one input. -/
def regsShiftWrong : ChangeSpec := { name := "regsShift", fn := fun _ => fun
  | [d1, d2] => { results := [.lit (.bool false)], args := [d1, d2] }
  | _ => none }
def RegsShiftWrongFalsely : Prop := regsShiftRow.holds Try.pinned (OpenSpec.ofChange regsShiftWrong)

/-- 'foolscaplaw19.RegsPlay': WHATEVER THE INPUT: true; the input reads as it did. -/
def regsPlaySpec : ChangeSpec := { name := "regsPlay", fn := fun _ => fun
  | [d1, d2] => { results := [.lit (.bool true)], args := [d1, d2] }
  | _ => none }
def regsPlayRow : OpenClaim := { program := "ytohpkjpipihdoaa", sum := "373f8dc718dfd02955035ff14e8164e25789db1a654aa97a526fc8d67f8eb65c", func := "foolscap/foolscaplaw19.RegsPlay", spec := "regsPlay", unfollowed := true, recurses := true, apart := false }
def RegsPlaySaid : Prop := regsPlayRow.holds Try.pinned (OpenSpec.ofChange regsPlaySpec)

/-- ITS FALSE NEIGHBOUR: 'it returns false'. Refute it at one input. -/
def regsPlayWrong : ChangeSpec := { name := "regsPlay", fn := fun _ => fun
  | [d1, d2] => { results := [.lit (.bool false)], args := [d1, d2] }
  | _ => none }
def RegsPlayWrongFalsely : Prop := regsPlayRow.holds Try.pinned (OpenSpec.ofChange regsPlayWrong)

/-- 'foolscaplaw19.RegsLimit': WHATEVER THE INPUT: true; the input reads as it did. -/
def regsLimitSpec : ChangeSpec := { name := "regsLimit", fn := fun _ => fun
  | [d1, d2, d3] => { results := [.lit (.bool true)], args := [d1, d2, d3] }
  | _ => none }
def regsLimitRow : OpenClaim := { program := "ytohpkjpipihdoaa", sum := "373f8dc718dfd02955035ff14e8164e25789db1a654aa97a526fc8d67f8eb65c", func := "foolscap/foolscaplaw19.RegsLimit", spec := "regsLimit", unfollowed := true, recurses := true, apart := false }
def RegsLimitSaid : Prop := regsLimitRow.holds Try.pinned (OpenSpec.ofChange regsLimitSpec)

/-- ITS FALSE NEIGHBOUR: 'it returns false'. Refute it at one input. -/
def regsLimitWrong : ChangeSpec := { name := "regsLimit", fn := fun _ => fun
  | [d1, d2, d3] => { results := [.lit (.bool false)], args := [d1, d2, d3] }
  | _ => none }
def RegsLimitWrongFalsely : Prop := regsLimitRow.holds Try.pinned (OpenSpec.ofChange regsLimitWrong)

/-- 'foolscaplaw19.RegsNames': WHATEVER THE INPUT: true; the input reads as it did. -/
def regsNamesSpec : ChangeSpec := { name := "regsNames", fn := fun _ => fun
  | [d1, d2] => { results := [.lit (.bool true)], args := [d1, d2] }
  | _ => none }
def regsNamesRow : OpenClaim := { program := "ytohpkjpipihdoaa", sum := "373f8dc718dfd02955035ff14e8164e25789db1a654aa97a526fc8d67f8eb65c", func := "foolscap/foolscaplaw19.RegsNames", spec := "regsNames", unfollowed := true, recurses := true, apart := false }
def RegsNamesSaid : Prop := regsNamesRow.holds Try.pinned (OpenSpec.ofChange regsNamesSpec)

/-- ITS FALSE NEIGHBOUR: 'it returns false'. Refute it at one input. -/
def regsNamesWrong : ChangeSpec := { name := "regsNames", fn := fun _ => fun
  | [d1, d2] => { results := [.lit (.bool false)], args := [d1, d2] }
  | _ => none }
def RegsNamesWrongFalsely : Prop := regsNamesRow.holds Try.pinned (OpenSpec.ofChange regsNamesWrong)

/-- 'foolscaplaw19.RegsAppend': WHATEVER THE INPUT: true; the input reads as it did. -/
def regsAppendSpec : ChangeSpec := { name := "regsAppend", fn := fun _ => fun
  | [d1, d2, d3] => { results := [.lit (.bool true)], args := [d1, d2, d3] }
  | _ => none }
def regsAppendRow : OpenClaim := { program := "ytohpkjpipihdoaa", sum := "373f8dc718dfd02955035ff14e8164e25789db1a654aa97a526fc8d67f8eb65c", func := "foolscap/foolscaplaw19.RegsAppend", spec := "regsAppend", unfollowed := true, recurses := true, apart := false }
def RegsAppendSaid : Prop := regsAppendRow.holds Try.pinned (OpenSpec.ofChange regsAppendSpec)

/-- ITS FALSE NEIGHBOUR: 'it returns false'. Refute it at one input. -/
def regsAppendWrong : ChangeSpec := { name := "regsAppend", fn := fun _ => fun
  | [d1, d2, d3] => { results := [.lit (.bool false)], args := [d1, d2, d3] }
  | _ => none }
def RegsAppendWrongFalsely : Prop := regsAppendRow.holds Try.pinned (OpenSpec.ofChange regsAppendWrong)

/-- 'foolscaplaw19.RegsYank': WHATEVER THE INPUT: true; the input reads as it did. -/
def regsYankSpec : ChangeSpec := { name := "regsYank", fn := fun _ => fun
  | [d1, d2] => { results := [.lit (.bool true)], args := [d1, d2] }
  | _ => none }
def regsYankRow : OpenClaim := { program := "ytohpkjpipihdoaa", sum := "373f8dc718dfd02955035ff14e8164e25789db1a654aa97a526fc8d67f8eb65c", func := "foolscap/foolscaplaw19.RegsYank", spec := "regsYank", unfollowed := true, recurses := true, apart := false }
def RegsYankSaid : Prop := regsYankRow.holds Try.pinned (OpenSpec.ofChange regsYankSpec)

/-- ITS FALSE NEIGHBOUR: 'it returns false'. Refute it at one input. -/
def regsYankWrong : ChangeSpec := { name := "regsYank", fn := fun _ => fun
  | [d1, d2] => { results := [.lit (.bool false)], args := [d1, d2] }
  | _ => none }
def RegsYankWrongFalsely : Prop := regsYankRow.holds Try.pinned (OpenSpec.ofChange regsYankWrong)

/- THE SECOND FORM. 'bulk': how many values and letters a reading holds, each counted each time it is reached (what is shared counts as often as it is met; a slice's spare places count too). A statement '..UptoSaid' is the law's where the arguments, and the package variables that the reading takes, are together of bulk at most 1048576: NARROWER than '..Said'. Prove '..Said' where nothing that the law and all that it calls make is longer than what came in: it says more and counts as full. Else prove '..UptoSaid'. A law counts once. -/
mutual
def uptoBulk {H : Type} : DataW H → Nat
  | .lit (.string bytes) => bytes.length + 1
  | .lit _ => 1
  | .nil => 1
  | .ptr d => uptoBulk d + 1
  | .slice elems spare => uptoBulkAll elems + uptoBulkAll spare + 1
  | .agg parts => uptoBulkAll parts + 1
  | .iface _ d => uptoBulk d + 1
  | .map entries => uptoBulkEntries entries + 1
  | .held _ => 1
def uptoBulkAll {H : Type} : List (DataW H) → Nat
  | [] => 0
  | d :: r => uptoBulk d + uptoBulkAll r
def uptoBulkEntries {H : Type} : List (Lit × DataW H) → Nat
  | [] => 0
  | x :: r => uptoBulkEntry x + uptoBulkEntries r
def uptoBulkEntry {H : Type} : Lit × DataW H → Nat
  | (.string bytes, d) => bytes.length + uptoBulk d + 1
  | (_, d) => uptoBulk d + 1
 end
def uptoSmall : (H : Type) → List (DataW H) → Bool := fun _ ds => decide (uptoBulkAll ds ≤ 1048576)
def OpenSpec.upto (s : _root_.Go.ChangeSpec) : _root_.Go.OpenSpec := { _root_.Go.OpenSpec.ofChange s with cond := some uptoSmall }

/-- 'foolscaplaw13.MarksShift', WHERE WHAT IT READS IS OF BULK AT MOST 1048576: true; the input reads as it did. -/
def marksShiftUptoRow : OpenClaim := { program := "ytohpkjpipihdoaa", sum := "373f8dc718dfd02955035ff14e8164e25789db1a654aa97a526fc8d67f8eb65c", func := "foolscap/foolscaplaw13.MarksShift", spec := "marksShift", inPlace := ["maps.clone"], unfollowed := true, recurses := true, apart := false, narrowed := true }
def MarksShiftUptoSaid : Prop := marksShiftUptoRow.holds Try.pinned (OpenSpec.upto marksShiftSpec)

/-- 'foolscaplaw13.MarksPlay', WHERE WHAT IT READS IS OF BULK AT MOST 1048576: true; the input reads as it did. -/
def marksPlayUptoRow : OpenClaim := { program := "ytohpkjpipihdoaa", sum := "373f8dc718dfd02955035ff14e8164e25789db1a654aa97a526fc8d67f8eb65c", func := "foolscap/foolscaplaw13.MarksPlay", spec := "marksPlay", inPlace := ["maps.clone"], unfollowed := true, recurses := true, apart := false, narrowed := true }
def MarksPlayUptoSaid : Prop := marksPlayUptoRow.holds Try.pinned (OpenSpec.upto marksPlaySpec)

/-- 'foolscaplaw13.MarksStay', WHERE WHAT IT READS IS OF BULK AT MOST 1048576: true; the input reads as it did. -/
def marksStayUptoRow : OpenClaim := { program := "ytohpkjpipihdoaa", sum := "373f8dc718dfd02955035ff14e8164e25789db1a654aa97a526fc8d67f8eb65c", func := "foolscap/foolscaplaw13.MarksStay", spec := "marksStay", inPlace := ["maps.clone"], unfollowed := true, recurses := true, apart := false, narrowed := true }
def MarksStayUptoSaid : Prop := marksStayUptoRow.holds Try.pinned (OpenSpec.upto marksStaySpec)

/-- 'foolscaplaw13.MarksLines', WHERE WHAT IT READS IS OF BULK AT MOST 1048576: true; the input reads as it did. -/
def marksLinesUptoRow : OpenClaim := { program := "ytohpkjpipihdoaa", sum := "373f8dc718dfd02955035ff14e8164e25789db1a654aa97a526fc8d67f8eb65c", func := "foolscap/foolscaplaw13.MarksLines", spec := "marksLines", inPlace := ["maps.clone"], unfollowed := true, recurses := true, apart := false, narrowed := true }
def MarksLinesUptoSaid : Prop := marksLinesUptoRow.holds Try.pinned (OpenSpec.upto marksLinesSpec)

/-- 'foolscaplaw13.MarksNames', WHERE WHAT IT READS IS OF BULK AT MOST 1048576: true; the input reads as it did. -/
def marksNamesUptoRow : OpenClaim := { program := "ytohpkjpipihdoaa", sum := "373f8dc718dfd02955035ff14e8164e25789db1a654aa97a526fc8d67f8eb65c", func := "foolscap/foolscaplaw13.MarksNames", spec := "marksNames", inPlace := ["maps.clone"], unfollowed := true, recurses := true, apart := false, narrowed := true }
def MarksNamesUptoSaid : Prop := marksNamesUptoRow.holds Try.pinned (OpenSpec.upto marksNamesSpec)

/-- 'foolscaplaw19.RegsJoin', WHERE WHAT IT READS IS OF BULK AT MOST 1048576: true; the input reads as it did. -/
def regsJoinUptoRow : OpenClaim := { program := "ytohpkjpipihdoaa", sum := "373f8dc718dfd02955035ff14e8164e25789db1a654aa97a526fc8d67f8eb65c", func := "foolscap/foolscaplaw19.RegsJoin", spec := "regsJoin", unfollowed := true, recurses := true, apart := false, narrowed := true }
def RegsJoinUptoSaid : Prop := regsJoinUptoRow.holds Try.pinned (OpenSpec.upto regsJoinSpec)

/-- 'foolscaplaw19.RegsShift', WHERE WHAT IT READS IS OF BULK AT MOST 1048576: true; the input reads as it did. -/
def regsShiftUptoRow : OpenClaim := { program := "ytohpkjpipihdoaa", sum := "373f8dc718dfd02955035ff14e8164e25789db1a654aa97a526fc8d67f8eb65c", func := "foolscap/foolscaplaw19.RegsShift", spec := "regsShift", unfollowed := true, recurses := true, apart := false, narrowed := true }
def RegsShiftUptoSaid : Prop := regsShiftUptoRow.holds Try.pinned (OpenSpec.upto regsShiftSpec)

/-- 'foolscaplaw19.RegsPlay', WHERE WHAT IT READS IS OF BULK AT MOST 1048576: true; the input reads as it did. -/
def regsPlayUptoRow : OpenClaim := { program := "ytohpkjpipihdoaa", sum := "373f8dc718dfd02955035ff14e8164e25789db1a654aa97a526fc8d67f8eb65c", func := "foolscap/foolscaplaw19.RegsPlay", spec := "regsPlay", unfollowed := true, recurses := true, apart := false, narrowed := true }
def RegsPlayUptoSaid : Prop := regsPlayUptoRow.holds Try.pinned (OpenSpec.upto regsPlaySpec)

/-- 'foolscaplaw19.RegsLimit', WHERE WHAT IT READS IS OF BULK AT MOST 1048576: true; the input reads as it did. -/
def regsLimitUptoRow : OpenClaim := { program := "ytohpkjpipihdoaa", sum := "373f8dc718dfd02955035ff14e8164e25789db1a654aa97a526fc8d67f8eb65c", func := "foolscap/foolscaplaw19.RegsLimit", spec := "regsLimit", unfollowed := true, recurses := true, apart := false, narrowed := true }
def RegsLimitUptoSaid : Prop := regsLimitUptoRow.holds Try.pinned (OpenSpec.upto regsLimitSpec)

/-- 'foolscaplaw19.RegsNames', WHERE WHAT IT READS IS OF BULK AT MOST 1048576: true; the input reads as it did. -/
def regsNamesUptoRow : OpenClaim := { program := "ytohpkjpipihdoaa", sum := "373f8dc718dfd02955035ff14e8164e25789db1a654aa97a526fc8d67f8eb65c", func := "foolscap/foolscaplaw19.RegsNames", spec := "regsNames", unfollowed := true, recurses := true, apart := false, narrowed := true }
def RegsNamesUptoSaid : Prop := regsNamesUptoRow.holds Try.pinned (OpenSpec.upto regsNamesSpec)

/-- 'foolscaplaw19.RegsAppend', WHERE WHAT IT READS IS OF BULK AT MOST 1048576: true; the input reads as it did. -/
def regsAppendUptoRow : OpenClaim := { program := "ytohpkjpipihdoaa", sum := "373f8dc718dfd02955035ff14e8164e25789db1a654aa97a526fc8d67f8eb65c", func := "foolscap/foolscaplaw19.RegsAppend", spec := "regsAppend", unfollowed := true, recurses := true, apart := false, narrowed := true }
def RegsAppendUptoSaid : Prop := regsAppendUptoRow.holds Try.pinned (OpenSpec.upto regsAppendSpec)

/-- 'foolscaplaw19.RegsYank', WHERE WHAT IT READS IS OF BULK AT MOST 1048576: true; the input reads as it did. -/
def regsYankUptoRow : OpenClaim := { program := "ytohpkjpipihdoaa", sum := "373f8dc718dfd02955035ff14e8164e25789db1a654aa97a526fc8d67f8eb65c", func := "foolscap/foolscaplaw19.RegsYank", spec := "regsYank", unfollowed := true, recurses := true, apart := false, narrowed := true }
def RegsYankUptoSaid : Prop := regsYankUptoRow.holds Try.pinned (OpenSpec.upto regsYankSpec)

end Rows
end Go.Proofs.Ytohpkjpipihdoaa
