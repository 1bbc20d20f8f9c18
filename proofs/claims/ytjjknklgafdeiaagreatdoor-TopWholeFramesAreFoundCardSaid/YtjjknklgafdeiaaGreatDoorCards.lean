/-
  DERIVED. GIVEN WITH THE SEED: THE CARDS: each row of YtjjknklgafdeiaaGreatDoorRows.lean that lists a variable, with what it lists TIED to the program's text (the seventh form; the later family's looks); each row that meets fmt, with fmt's text TOLD by the authors' own Lean function (tested against real Go, not proved from fmt's source: count such statements apart). THE CARD IS WHAT COUNTS. Prove the row's statement (the work); the ties are given (YtjjknklgafdeiaaGreatDoorTie.lean); close each card by the builder's one call (the guide's Derived/Test/ToyasCard.lean, 'card_holds'). Laid BY PROGRAM, IN A SANDBOX (cutbox-door.mjs). By AI agents, Wed Nov 11 2026. No macro, syntax, notation, axiom, sorry.
-/
import Derived.Test.YtjjknklgafdeiaaGreatDoorRows
import GoSem.ClaimSeven
namespace Go.Proofs.YtjjknklgafdeiaaGreatDoor
namespace Rows

/-- THE TIED CARD OF 'orangeboxtop.TopWholeFramesAreFound'. -/
def topWholeFramesAreFoundCard : Claim7 := { stood := { row := topWholeFramesAreFoundRow, standIns := [], harness := (true, "cbd5acae6821279527292dde2439e32dc19234e5552006cc3bba53748264e553"), looks := false }, kinds := [], alts := [], laidByText := true, laidKinds := [.data], laidTests := true, laidLooks := .later }
def TopWholeFramesAreFoundCardSaid : Prop := Claim7.holds Tryz.pinned (.plain (OpenSpec.ofChange topWholeFramesAreFoundSpec)) topWholeFramesAreFoundCard

/-- THE SECOND FORM's CARD OF 'orangeboxtop.TopWholeFramesAreFound'. -/
def topWholeFramesAreFoundUptoCard : Claim7 := { stood := { row := topWholeFramesAreFoundUptoRow, standIns := [], harness := (true, "cbd5acae6821279527292dde2439e32dc19234e5552006cc3bba53748264e553"), looks := false }, kinds := [], alts := [], laidByText := true, laidKinds := [.data], laidTests := true, laidLooks := .later }
def TopWholeFramesAreFoundUptoCardSaid : Prop := Claim7.holds Tryz.pinned (.plain (OpenSpec.upto topWholeFramesAreFoundSpec)) topWholeFramesAreFoundUptoCard
end Rows
end Go.Proofs.YtjjknklgafdeiaaGreatDoor
