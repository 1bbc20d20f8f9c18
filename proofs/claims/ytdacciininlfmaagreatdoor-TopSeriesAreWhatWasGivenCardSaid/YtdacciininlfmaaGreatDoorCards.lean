/-
  DERIVED. GIVEN WITH THE SEED: THE CARDS: each row of YtdacciininlfmaaGreatDoorRows.lean that lists a variable, with what it lists TIED to the program's text (the seventh form; the later family's looks); each row that meets fmt, with fmt's text TOLD by the authors' own Lean function (tested against real Go, not proved from fmt's source: count such statements apart). THE CARD IS WHAT COUNTS. Prove the row's statement (the work); the ties are given (YtdacciininlfmaaGreatDoorTie.lean); close each card by the builder's one call (the guide's Derived/Test/ToyasCard.lean, 'card_holds'). Laid BY PROGRAM, IN A SANDBOX (cutbox-door.mjs). By AI agents, Wed Nov 11 2026. No macro, syntax, notation, axiom, sorry.
-/
import Derived.Test.YtdacciininlfmaaGreatDoorRows
import GoSem.ClaimSeven
namespace Go.Proofs.YtdacciininlfmaaGreatDoor
namespace Rows

/-- THE TIED CARD OF 'orangeboxtop.TopSeriesAreWhatWasGiven'. -/
def topSeriesAreWhatWasGivenCard : Claim7 := { stood := { row := topSeriesAreWhatWasGivenRow, standIns := [], harness := (true, "33e3decd702495d5b20cdf3466ab112186ce953a88a8ede564e87530097ae939"), looks := false }, kinds := [], alts := [], laidByText := true, laidKinds := [.data], laidTests := true, laidLooks := .later }
def TopSeriesAreWhatWasGivenCardSaid : Prop := Claim7.holds Tryz.pinned (.plain (OpenSpec.ofChange topSeriesAreWhatWasGivenSpec)) topSeriesAreWhatWasGivenCard

/-- THE SECOND FORM's CARD OF 'orangeboxtop.TopSeriesAreWhatWasGiven'. -/
def topSeriesAreWhatWasGivenUptoCard : Claim7 := { stood := { row := topSeriesAreWhatWasGivenUptoRow, standIns := [], harness := (true, "33e3decd702495d5b20cdf3466ab112186ce953a88a8ede564e87530097ae939"), looks := false }, kinds := [], alts := [], laidByText := true, laidKinds := [.data], laidTests := true, laidLooks := .later }
def TopSeriesAreWhatWasGivenUptoCardSaid : Prop := Claim7.holds Tryz.pinned (.plain (OpenSpec.upto topSeriesAreWhatWasGivenSpec)) topSeriesAreWhatWasGivenUptoCard
end Rows
end Go.Proofs.YtdacciininlfmaaGreatDoor
