/-
  DERIVED. GIVEN WITH THE SEED: THE CARDS: each row of YtddkekepoimcpaaGreatDoorRows.lean that lists a variable, with what it lists TIED to the program's text (the seventh form; the later family's looks); each row that meets fmt, with fmt's text TOLD by the authors' own Lean function (tested against real Go, not proved from fmt's source: count such statements apart). THE CARD IS WHAT COUNTS. Prove the row's statement (the work); the ties are given (YtddkekepoimcpaaGreatDoorTie.lean); close each card by the builder's one call (the guide's Derived/Test/ToyasCard.lean, 'card_holds'). Laid BY PROGRAM, IN A SANDBOX (cutbox-door.mjs). By AI agents, Wed Nov 11 2026. No macro, syntax, notation, axiom, sorry.
-/
import Derived.Test.YtddkekepoimcpaaGreatDoorRows
import GoSem.ClaimSeven
namespace Go.Proofs.YtddkekepoimcpaaGreatDoor
namespace Rows

/-- THE TIED CARD OF 'foolscaplaw35.PlaySame'. -/
def playSameCard : Claim7 := { stood := { row := playSameRow, standIns := [], harness := (true, "a07d2f061a3763b39cd0f56d3487792cb7845f5f6aa6f1dd0958ee4eb595376b"), looks := true }, kinds := [], alts := [], laidByText := true, laidKinds := [.data, .pinned], laidTests := true, laidLooks := .later }
def PlaySameCardSaid : Prop := Claim7.holds Tryz.pinned (.plain (OpenSpec.ofChange playSameSpec)) playSameCard

/-- THE SECOND FORM's CARD OF 'foolscaplaw35.PlaySame'. -/
def playSameUptoCard : Claim7 := { stood := { row := playSameUptoRow, standIns := [], harness := (true, "a07d2f061a3763b39cd0f56d3487792cb7845f5f6aa6f1dd0958ee4eb595376b"), looks := true }, kinds := [], alts := [], laidByText := true, laidKinds := [.data, .pinned], laidTests := true, laidLooks := .later }
def PlaySameUptoCardSaid : Prop := Claim7.holds Tryz.pinned (.plain (OpenSpec.upto playSameSpec)) playSameUptoCard
end Rows
end Go.Proofs.YtddkekepoimcpaaGreatDoor
