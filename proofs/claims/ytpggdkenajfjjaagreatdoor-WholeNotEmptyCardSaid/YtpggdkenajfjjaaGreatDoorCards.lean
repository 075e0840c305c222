/-
  DERIVED. GIVEN WITH THE SEED: THE CARDS: each row of YtpggdkenajfjjaaGreatDoorRows.lean that lists a variable, with what it lists TIED to the program's text (the seventh form; the later family's looks); each row that meets fmt, with fmt's text TOLD by the authors' own Lean function (tested against real Go, not proved from fmt's source: count such statements apart). THE CARD IS WHAT COUNTS. Prove the row's statement (the work); the ties are given (YtpggdkenajfjjaaGreatDoorTie.lean); close each card by the builder's one call (the guide's Derived/Test/ToyasCard.lean, 'card_holds'). Laid BY PROGRAM, IN A SANDBOX (cutbox-door.mjs). By AI agents, Wed Nov 11 2026. No macro, syntax, notation, axiom, sorry.
-/
import Derived.Test.YtpggdkenajfjjaaGreatDoorRows
import GoSem.ClaimSeven
namespace Go.Proofs.YtpggdkenajfjjaaGreatDoor
namespace Rows

/-- THE TIED CARD OF 'gnomontop.WholeNotEmpty'. -/
def wholeNotEmptyCard : Claim7 := { stood := { row := wholeNotEmptyRow, standIns := [], harness := (true, "d5bd0bddabe18322f9137dad92c1e5f057d74d8fabe9bc45d51772037301d3c9"), looks := true }, kinds := [], alts := [], laidByText := true, laidKinds := [.data, .data, .data, .data, .sentinel, .sentinel, .pinned], laidTests := true, laidLooks := .later }
def WholeNotEmptyCardSaid : Prop := Claim7.holds Tryz.pinned (.plain (OpenSpec.ofChange wholeNotEmptySpec)) wholeNotEmptyCard

/-- THE SECOND FORM's CARD OF 'gnomontop.WholeNotEmpty'. -/
def wholeNotEmptyUptoCard : Claim7 := { stood := { row := wholeNotEmptyUptoRow, standIns := [], harness := (true, "d5bd0bddabe18322f9137dad92c1e5f057d74d8fabe9bc45d51772037301d3c9"), looks := true }, kinds := [], alts := [], laidByText := true, laidKinds := [.data, .data, .data, .data, .sentinel, .sentinel, .pinned], laidTests := true, laidLooks := .later }
def WholeNotEmptyUptoCardSaid : Prop := Claim7.holds Tryz.pinned (.plain (OpenSpec.upto wholeNotEmptySpec)) wholeNotEmptyUptoCard
end Rows
end Go.Proofs.YtpggdkenajfjjaaGreatDoor
