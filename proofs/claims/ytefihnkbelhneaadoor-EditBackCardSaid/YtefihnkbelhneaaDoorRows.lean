/-
  NARROWER THAN 'FOR EVERY INPUT', by the rows' own cells (each row's printed sentence says how): EditWrites: laid · EditJoins: laid · EditParts: laid · EditBlocks: laid · EditShifts: laid · EditBack: laid.
  DERIVED. THE GIVEN ROWS OF THIS SEAT. 6 by the template 'for every input the law returns true; each argument reads behind the call as it read before'; 0 by the template 'total and deterministic' (their statements: YtefihnkbelhneaaDoorTotals.lean).
  GIVEN WITH THE SEED: the statements are not yours to turn. If you find one false, say at which input.
  Laid BY PROGRAM, IN A SANDBOX (cutbox-rows.mjs): the forced cells as the released guide's own fill.sh prints them over the translation 7c189f7df533e72d… (all of the seat's roots in one cut). By AI agents, Wed Nov 11 2026. No macro, syntax, notation, axiom, sorry.
-/
import Derived.Test.YtefihnkbelhneaaDoorChecked
import GoSem.PinnedTables
import GoSem.Claim
import GoSem.ClaimJoined
import GoSem.ClaimMapViews
import Derived.JoinedTies
import Derived.KernelRfl
namespace Go.Proofs.YtefihnkbelhneaaDoor
/- THE CELL 'sum', in the pinned program and in every row, IS THE sha256 OF THE DUMP (.gsa) THAT YtefihnkbelhneaaDoorProg.lean LOADS. Nothing in Lean hashes anything: it is a label: what it is worth is what the hold of that sum in a sandbox is worth. -/
noncomputable def Tryd.pinned : Pinned := { name := "ytefihnkbelhneaadoor", sum := "7c189f7df533e72d37460c381e467da0a3d85b15a615f44305fa1a108f0f1a81", checked := Tryd.checked }
namespace Rows
def none {H : Type} : Left H := { results := [], args := [] }

/- WHAT THE LISTED PACKAGE-LEVEL VARIABLES READ AS WHEN THE CALL BEGINS. Each datum BY PROGRAM (the guide's laid-datum.mjs) off the statement by which the dump's own 'gosem.cut.vars' lays the variable. In a bare row this is a premise. The card (YtefihnkbelhneaaDoorCards.lean) ties it to the program's text. -/
def laid_unicode_utf8_acceptRanges {H : Type} : DataW H := .agg [.agg [.lit (.int .u8 128), .lit (.int .u8 191)], .agg [.lit (.int .u8 160), .lit (.int .u8 191)], .agg [.lit (.int .u8 128), .lit (.int .u8 159)], .agg [.lit (.int .u8 144), .lit (.int .u8 191)], .agg [.lit (.int .u8 128), .lit (.int .u8 143)], .agg [.lit (.int .u8 0), .lit (.int .u8 0)], .agg [.lit (.int .u8 0), .lit (.int .u8 0)], .agg [.lit (.int .u8 0), .lit (.int .u8 0)], .agg [.lit (.int .u8 0), .lit (.int .u8 0)], .agg [.lit (.int .u8 0), .lit (.int .u8 0)], .agg [.lit (.int .u8 0), .lit (.int .u8 0)], .agg [.lit (.int .u8 0), .lit (.int .u8 0)], .agg [.lit (.int .u8 0), .lit (.int .u8 0)], .agg [.lit (.int .u8 0), .lit (.int .u8 0)], .agg [.lit (.int .u8 0), .lit (.int .u8 0)], .agg [.lit (.int .u8 0), .lit (.int .u8 0)]]
/-- One of Go's own tables, pinned by name: the form's constant. -/
def laid_unicode_utf8_first : DataW Unit := Go.Pinned.utf8First

/-- 'foolscaplaw20.EditWrites': WHATEVER THE INPUT: true; the input reads as it did. -/
def editWritesSpec : ChangeSpec := { name := "editWrites", fn := fun _ => fun
  | [d1, d2, d3, d4, d5, d6, d7] => { results := [.lit (.bool true)], args := [d1, d2, d3, d4, d5, d6, d7] }
  | _ => none }
def editWritesRow : OpenClaim := { program := "ytefihnkbelhneaadoor", sum := "7c189f7df533e72d37460c381e467da0a3d85b15a615f44305fa1a108f0f1a81", func := "foolscap/foolscaplaw20.EditWrites", spec := "editWrites", inPlace := ["internal/bytealg.IndexByteString", "internal/bytealg.IndexString"], unfollowed := true, recurses := true, named := ["unicode/utf8.first", "unicode/utf8.acceptRanges", "internal/bytealg.MaxLen"], apart := false, laid := [("unicode/utf8.acceptRanges", laid_unicode_utf8_acceptRanges), ("unicode/utf8.first", laid_unicode_utf8_first)] }
def EditWritesSaid : Prop := editWritesRow.holds Tryd.pinned (OpenSpec.ofChange editWritesSpec)

/-- ITS FALSE NEIGHBOUR: 'it returns false'. Refute it at one input. -/
def editWritesWrong : ChangeSpec := { name := "editWrites", fn := fun _ => fun
  | [d1, d2, d3, d4, d5, d6, d7] => { results := [.lit (.bool false)], args := [d1, d2, d3, d4, d5, d6, d7] }
  | _ => none }
def EditWritesWrongFalsely : Prop := editWritesRow.holds Tryd.pinned (OpenSpec.ofChange editWritesWrong)

/-- 'foolscaplaw20.EditJoins': WHATEVER THE INPUT: true; the input reads as it did. -/
def editJoinsSpec : ChangeSpec := { name := "editJoins", fn := fun _ => fun
  | [d1, d2, d3] => { results := [.lit (.bool true)], args := [d1, d2, d3] }
  | _ => none }
def editJoinsRow : OpenClaim := { program := "ytefihnkbelhneaadoor", sum := "7c189f7df533e72d37460c381e467da0a3d85b15a615f44305fa1a108f0f1a81", func := "foolscap/foolscaplaw20.EditJoins", spec := "editJoins", inPlace := ["internal/bytealg.IndexByteString", "internal/bytealg.IndexString"], unfollowed := true, recurses := true, named := ["unicode/utf8.first", "unicode/utf8.acceptRanges", "internal/bytealg.MaxLen"], apart := false, laid := [("unicode/utf8.acceptRanges", laid_unicode_utf8_acceptRanges), ("unicode/utf8.first", laid_unicode_utf8_first)] }
def EditJoinsSaid : Prop := editJoinsRow.holds Tryd.pinned (OpenSpec.ofChange editJoinsSpec)

/-- ITS FALSE NEIGHBOUR: 'it returns false'. Refute it at one input. -/
def editJoinsWrong : ChangeSpec := { name := "editJoins", fn := fun _ => fun
  | [d1, d2, d3] => { results := [.lit (.bool false)], args := [d1, d2, d3] }
  | _ => none }
def EditJoinsWrongFalsely : Prop := editJoinsRow.holds Tryd.pinned (OpenSpec.ofChange editJoinsWrong)

/-- 'foolscaplaw20.EditParts': WHATEVER THE INPUT: true; the input reads as it did. -/
def editPartsSpec : ChangeSpec := { name := "editParts", fn := fun _ => fun
  | [d1, d2, d3] => { results := [.lit (.bool true)], args := [d1, d2, d3] }
  | _ => none }
def editPartsRow : OpenClaim := { program := "ytefihnkbelhneaadoor", sum := "7c189f7df533e72d37460c381e467da0a3d85b15a615f44305fa1a108f0f1a81", func := "foolscap/foolscaplaw20.EditParts", spec := "editParts", inPlace := ["internal/bytealg.IndexByteString", "internal/bytealg.IndexString"], unfollowed := true, recurses := true, named := ["unicode/utf8.first", "unicode/utf8.acceptRanges", "internal/bytealg.MaxLen"], apart := false, laid := [("unicode/utf8.acceptRanges", laid_unicode_utf8_acceptRanges), ("unicode/utf8.first", laid_unicode_utf8_first)] }
def EditPartsSaid : Prop := editPartsRow.holds Tryd.pinned (OpenSpec.ofChange editPartsSpec)

/-- ITS FALSE NEIGHBOUR: 'it returns false'. Refute it at one input. -/
def editPartsWrong : ChangeSpec := { name := "editParts", fn := fun _ => fun
  | [d1, d2, d3] => { results := [.lit (.bool false)], args := [d1, d2, d3] }
  | _ => none }
def EditPartsWrongFalsely : Prop := editPartsRow.holds Tryd.pinned (OpenSpec.ofChange editPartsWrong)

/-- 'foolscaplaw20.EditBlocks': WHATEVER THE INPUT: true; the input reads as it did. -/
def editBlocksSpec : ChangeSpec := { name := "editBlocks", fn := fun _ => fun
  | [d1, d2, d3, d4, d5] => { results := [.lit (.bool true)], args := [d1, d2, d3, d4, d5] }
  | _ => none }
def editBlocksRow : OpenClaim := { program := "ytefihnkbelhneaadoor", sum := "7c189f7df533e72d37460c381e467da0a3d85b15a615f44305fa1a108f0f1a81", func := "foolscap/foolscaplaw20.EditBlocks", spec := "editBlocks", inPlace := ["internal/bytealg.IndexByteString", "internal/bytealg.IndexString"], unfollowed := true, recurses := true, named := ["unicode/utf8.first", "unicode/utf8.acceptRanges", "internal/bytealg.MaxLen"], apart := false, laid := [("unicode/utf8.acceptRanges", laid_unicode_utf8_acceptRanges), ("unicode/utf8.first", laid_unicode_utf8_first)] }
def EditBlocksSaid : Prop := editBlocksRow.holds Tryd.pinned (OpenSpec.ofChange editBlocksSpec)

/-- ITS FALSE NEIGHBOUR: 'it returns false'. Refute it at one input. -/
def editBlocksWrong : ChangeSpec := { name := "editBlocks", fn := fun _ => fun
  | [d1, d2, d3, d4, d5] => { results := [.lit (.bool false)], args := [d1, d2, d3, d4, d5] }
  | _ => none }
def EditBlocksWrongFalsely : Prop := editBlocksRow.holds Tryd.pinned (OpenSpec.ofChange editBlocksWrong)

/-- 'foolscaplaw20.EditShifts': WHATEVER THE INPUT: true; the input reads as it did. -/
def editShiftsSpec : ChangeSpec := { name := "editShifts", fn := fun _ => fun
  | [d1, d2, d3, d4, d5] => { results := [.lit (.bool true)], args := [d1, d2, d3, d4, d5] }
  | _ => none }
def editShiftsRow : OpenClaim := { program := "ytefihnkbelhneaadoor", sum := "7c189f7df533e72d37460c381e467da0a3d85b15a615f44305fa1a108f0f1a81", func := "foolscap/foolscaplaw20.EditShifts", spec := "editShifts", inPlace := ["internal/bytealg.IndexByteString", "internal/bytealg.IndexString", "internal/abi.NoEscape", "internal/bytealg.MakeNoZero"], unfollowed := true, recurses := true, named := ["unicode/utf8.first", "unicode/utf8.acceptRanges", "internal/bytealg.MaxLen"], apart := false, laid := [("unicode/utf8.acceptRanges", laid_unicode_utf8_acceptRanges), ("unicode/utf8.first", laid_unicode_utf8_first)] }
def EditShiftsSaid : Prop := editShiftsRow.holds Tryd.pinned (OpenSpec.ofChange editShiftsSpec)

/-- ITS FALSE NEIGHBOUR: 'it returns false'. Refute it at one input. -/
def editShiftsWrong : ChangeSpec := { name := "editShifts", fn := fun _ => fun
  | [d1, d2, d3, d4, d5] => { results := [.lit (.bool false)], args := [d1, d2, d3, d4, d5] }
  | _ => none }
def EditShiftsWrongFalsely : Prop := editShiftsRow.holds Tryd.pinned (OpenSpec.ofChange editShiftsWrong)

/-- 'foolscaplaw20.EditBack': WHATEVER THE INPUT: true; the input reads as it did. -/
def editBackSpec : ChangeSpec := { name := "editBack", fn := fun _ => fun
  | [d1, d2, d3, d4, d5, d6, d7] => { results := [.lit (.bool true)], args := [d1, d2, d3, d4, d5, d6, d7] }
  | _ => none }
def editBackRow : OpenClaim := { program := "ytefihnkbelhneaadoor", sum := "7c189f7df533e72d37460c381e467da0a3d85b15a615f44305fa1a108f0f1a81", func := "foolscap/foolscaplaw20.EditBack", spec := "editBack", inPlace := ["internal/bytealg.IndexByteString", "internal/bytealg.IndexString", "internal/abi.NoEscape", "internal/bytealg.MakeNoZero"], unfollowed := true, recurses := true, named := ["unicode/utf8.first", "unicode/utf8.acceptRanges", "internal/bytealg.MaxLen"], apart := false, laid := [("unicode/utf8.acceptRanges", laid_unicode_utf8_acceptRanges), ("unicode/utf8.first", laid_unicode_utf8_first)] }
def EditBackSaid : Prop := editBackRow.holds Tryd.pinned (OpenSpec.ofChange editBackSpec)

/-- ITS FALSE NEIGHBOUR: 'it returns false'. Refute it at one input. -/
def editBackWrong : ChangeSpec := { name := "editBack", fn := fun _ => fun
  | [d1, d2, d3, d4, d5, d6, d7] => { results := [.lit (.bool false)], args := [d1, d2, d3, d4, d5, d6, d7] }
  | _ => none }
def EditBackWrongFalsely : Prop := editBackRow.holds Tryd.pinned (OpenSpec.ofChange editBackWrong)

/- THE SECOND FORM. 'bulk': how many values and letters a reading holds, each counted each time it is reached (what is shared counts as often as it is met; a slice's spare places count too). A statement '..UptoSaid' is the law's where the arguments, and the package variables that the reading takes, are together of bulk at most 1048576: NARROWER than '..Said'. Prove '..Said' where nothing that the law and all that it calls make is longer than what came in: it says more and counts as full. Else prove '..UptoSaid'. A law counts once. -/
mutual
def uptoBulk {H : Type} : DataW H → Nat
  | .lit (.string bytes) => bytes.length + 1
  | .lit _ => 1
  | .nil => 1
  | .ptr d => uptoBulk d + 1
  | .slice elems spare => uptoBulkAll elems + uptoBulkAll spare + 1
  | .agg parts => uptoBulkAll parts + 1
  | .iface _ d => uptoBulk d + 1
  | .map entries => uptoBulkEntries entries + 1
  | .held _ => 1
def uptoBulkAll {H : Type} : List (DataW H) → Nat
  | [] => 0
  | d :: r => uptoBulk d + uptoBulkAll r
def uptoBulkEntries {H : Type} : List (Lit × DataW H) → Nat
  | [] => 0
  | x :: r => uptoBulkEntry x + uptoBulkEntries r
def uptoBulkEntry {H : Type} : Lit × DataW H → Nat
  | (.string bytes, d) => bytes.length + uptoBulk d + 1
  | (_, d) => uptoBulk d + 1
 end
def uptoSmall : (H : Type) → List (DataW H) → Bool := fun _ ds => decide (uptoBulkAll ds ≤ 1048576)
def OpenSpec.upto (s : _root_.Go.ChangeSpec) : _root_.Go.OpenSpec := { _root_.Go.OpenSpec.ofChange s with cond := some uptoSmall }

/-- 'foolscaplaw20.EditWrites', WHERE WHAT IT READS IS OF BULK AT MOST 1048576: true; the input reads as it did. -/
def editWritesUptoRow : OpenClaim := { program := "ytefihnkbelhneaadoor", sum := "7c189f7df533e72d37460c381e467da0a3d85b15a615f44305fa1a108f0f1a81", func := "foolscap/foolscaplaw20.EditWrites", spec := "editWrites", inPlace := ["internal/bytealg.IndexByteString", "internal/bytealg.IndexString"], unfollowed := true, recurses := true, named := ["unicode/utf8.first", "unicode/utf8.acceptRanges", "internal/bytealg.MaxLen"], apart := false, laid := [("unicode/utf8.acceptRanges", laid_unicode_utf8_acceptRanges), ("unicode/utf8.first", laid_unicode_utf8_first)], narrowed := true }
def EditWritesUptoSaid : Prop := editWritesUptoRow.holds Tryd.pinned (OpenSpec.upto editWritesSpec)

/-- 'foolscaplaw20.EditJoins', WHERE WHAT IT READS IS OF BULK AT MOST 1048576: true; the input reads as it did. -/
def editJoinsUptoRow : OpenClaim := { program := "ytefihnkbelhneaadoor", sum := "7c189f7df533e72d37460c381e467da0a3d85b15a615f44305fa1a108f0f1a81", func := "foolscap/foolscaplaw20.EditJoins", spec := "editJoins", inPlace := ["internal/bytealg.IndexByteString", "internal/bytealg.IndexString"], unfollowed := true, recurses := true, named := ["unicode/utf8.first", "unicode/utf8.acceptRanges", "internal/bytealg.MaxLen"], apart := false, laid := [("unicode/utf8.acceptRanges", laid_unicode_utf8_acceptRanges), ("unicode/utf8.first", laid_unicode_utf8_first)], narrowed := true }
def EditJoinsUptoSaid : Prop := editJoinsUptoRow.holds Tryd.pinned (OpenSpec.upto editJoinsSpec)

/-- 'foolscaplaw20.EditParts', WHERE WHAT IT READS IS OF BULK AT MOST 1048576: true; the input reads as it did. -/
def editPartsUptoRow : OpenClaim := { program := "ytefihnkbelhneaadoor", sum := "7c189f7df533e72d37460c381e467da0a3d85b15a615f44305fa1a108f0f1a81", func := "foolscap/foolscaplaw20.EditParts", spec := "editParts", inPlace := ["internal/bytealg.IndexByteString", "internal/bytealg.IndexString"], unfollowed := true, recurses := true, named := ["unicode/utf8.first", "unicode/utf8.acceptRanges", "internal/bytealg.MaxLen"], apart := false, laid := [("unicode/utf8.acceptRanges", laid_unicode_utf8_acceptRanges), ("unicode/utf8.first", laid_unicode_utf8_first)], narrowed := true }
def EditPartsUptoSaid : Prop := editPartsUptoRow.holds Tryd.pinned (OpenSpec.upto editPartsSpec)

/-- 'foolscaplaw20.EditBlocks', WHERE WHAT IT READS IS OF BULK AT MOST 1048576: true; the input reads as it did. -/
def editBlocksUptoRow : OpenClaim := { program := "ytefihnkbelhneaadoor", sum := "7c189f7df533e72d37460c381e467da0a3d85b15a615f44305fa1a108f0f1a81", func := "foolscap/foolscaplaw20.EditBlocks", spec := "editBlocks", inPlace := ["internal/bytealg.IndexByteString", "internal/bytealg.IndexString"], unfollowed := true, recurses := true, named := ["unicode/utf8.first", "unicode/utf8.acceptRanges", "internal/bytealg.MaxLen"], apart := false, laid := [("unicode/utf8.acceptRanges", laid_unicode_utf8_acceptRanges), ("unicode/utf8.first", laid_unicode_utf8_first)], narrowed := true }
def EditBlocksUptoSaid : Prop := editBlocksUptoRow.holds Tryd.pinned (OpenSpec.upto editBlocksSpec)

/-- 'foolscaplaw20.EditShifts', WHERE WHAT IT READS IS OF BULK AT MOST 1048576: true; the input reads as it did. -/
def editShiftsUptoRow : OpenClaim := { program := "ytefihnkbelhneaadoor", sum := "7c189f7df533e72d37460c381e467da0a3d85b15a615f44305fa1a108f0f1a81", func := "foolscap/foolscaplaw20.EditShifts", spec := "editShifts", inPlace := ["internal/bytealg.IndexByteString", "internal/bytealg.IndexString", "internal/abi.NoEscape", "internal/bytealg.MakeNoZero"], unfollowed := true, recurses := true, named := ["unicode/utf8.first", "unicode/utf8.acceptRanges", "internal/bytealg.MaxLen"], apart := false, laid := [("unicode/utf8.acceptRanges", laid_unicode_utf8_acceptRanges), ("unicode/utf8.first", laid_unicode_utf8_first)], narrowed := true }
def EditShiftsUptoSaid : Prop := editShiftsUptoRow.holds Tryd.pinned (OpenSpec.upto editShiftsSpec)

/-- 'foolscaplaw20.EditBack', WHERE WHAT IT READS IS OF BULK AT MOST 1048576: true; the input reads as it did. -/
def editBackUptoRow : OpenClaim := { program := "ytefihnkbelhneaadoor", sum := "7c189f7df533e72d37460c381e467da0a3d85b15a615f44305fa1a108f0f1a81", func := "foolscap/foolscaplaw20.EditBack", spec := "editBack", inPlace := ["internal/bytealg.IndexByteString", "internal/bytealg.IndexString", "internal/abi.NoEscape", "internal/bytealg.MakeNoZero"], unfollowed := true, recurses := true, named := ["unicode/utf8.first", "unicode/utf8.acceptRanges", "internal/bytealg.MaxLen"], apart := false, laid := [("unicode/utf8.acceptRanges", laid_unicode_utf8_acceptRanges), ("unicode/utf8.first", laid_unicode_utf8_first)], narrowed := true }
def EditBackUptoSaid : Prop := editBackUptoRow.holds Tryd.pinned (OpenSpec.upto editBackSpec)

end Rows
end Go.Proofs.YtefihnkbelhneaaDoor
