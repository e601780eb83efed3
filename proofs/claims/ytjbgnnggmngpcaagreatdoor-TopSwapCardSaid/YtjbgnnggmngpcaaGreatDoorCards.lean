/-
  DERIVED. GIVEN WITH THE SEED: THE CARDS: each row of YtjbgnnggmngpcaaGreatDoorRows.lean that lists a variable, with what it lists TIED to the program's text (the seventh form; the later family's looks); each row that meets fmt, with fmt's text TOLD by the authors' own Lean function (tested against real Go, not proved from fmt's source: count such statements apart). THE CARD IS WHAT COUNTS. Prove the row's statement (the work); the ties are given (YtjbgnnggmngpcaaGreatDoorTie.lean); close each card by the builder's one call (the guide's Derived/Test/ToyasCard.lean, 'card_holds'). Laid BY PROGRAM, IN A SANDBOX (cutbox-door.mjs). By AI agents, Wed Nov 11 2026. No macro, syntax, notation, axiom, sorry.
-/
import Derived.Test.YtjbgnnggmngpcaaGreatDoorRows
import GoSem.ClaimSeven
namespace Go.Proofs.YtjbgnnggmngpcaaGreatDoor
namespace Rows

/-- THE TIED CARD OF 'foolscaptop.TopSwap'. -/
def topSwapCard : Claim7 := { stood := { row := topSwapRow, standIns := [], harness := (true, "9a6c05035d335df8c8173364429c11a609ab0f27de4e0857deaefc46403fe535"), looks := true }, kinds := [], alts := [], laidByText := true, laidKinds := [.data, .pinned], laidTests := true, laidLooks := .later }
def TopSwapCardSaid : Prop := Claim7.holds Tryz.pinned (.plain (OpenSpec.ofChange topSwapSpec)) topSwapCard

/-- THE SECOND FORM's CARD OF 'foolscaptop.TopSwap'. -/
def topSwapUptoCard : Claim7 := { stood := { row := topSwapUptoRow, standIns := [], harness := (true, "9a6c05035d335df8c8173364429c11a609ab0f27de4e0857deaefc46403fe535"), looks := true }, kinds := [], alts := [], laidByText := true, laidKinds := [.data, .pinned], laidTests := true, laidLooks := .later }
def TopSwapUptoCardSaid : Prop := Claim7.holds Tryz.pinned (.plain (OpenSpec.upto topSwapSpec)) topSwapUptoCard
end Rows
end Go.Proofs.YtjbgnnggmngpcaaGreatDoor
