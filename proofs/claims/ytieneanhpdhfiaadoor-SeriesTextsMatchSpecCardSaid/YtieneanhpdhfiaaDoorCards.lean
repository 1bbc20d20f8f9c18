/-
  DERIVED. GIVEN WITH THE SEED: THE CARDS: each row of YtieneanhpdhfiaaDoorRows.lean that lists a variable, with what it lists TIED to the program's text (the seventh form; the later family's looks); each row that meets fmt, with fmt's text TOLD by the authors' own Lean function (tested against real Go, not proved from fmt's source: count such statements apart). THE CARD IS WHAT COUNTS. Prove the row's statement (the work); the ties are given (YtieneanhpdhfiaaDoorTie.lean); close each card by the builder's one call (the guide's Derived/Test/ToyasCard.lean, 'card_holds'). Laid BY PROGRAM, IN A SANDBOX (cutbox-door.mjs). By AI agents, Wed Nov 11 2026. No macro, syntax, notation, axiom, sorry.
-/
import Derived.Test.YtieneanhpdhfiaaDoorRows
import GoSem.ClaimSeven
namespace Go.Proofs.YtieneanhpdhfiaaDoor
namespace Rows

/-- THE TIED CARD OF 'orangeboxlaw5.SeriesTextsMatchSpec'. -/
def seriesTextsMatchSpecCard : Claim7 := { stood := { row := seriesTextsMatchSpecRow, standIns := [], harness := (true, "6e1adeef77e90b3357f19c29ed09ba4906728c974f115ce94930e541f823be5d"), looks := true }, kinds := [], alts := [], laidByText := true, laidKinds := [.data, .data, .data, .data, .sentinel, .sentinel, .data, .pinned], laidTests := true, laidLooks := .later }
def SeriesTextsMatchSpecCardSaid : Prop := Claim7.holds Tryd.pinned (.plain (OpenSpec.ofChange seriesTextsMatchSpecSpec)) seriesTextsMatchSpecCard

/-- THE SECOND FORM's CARD OF 'orangeboxlaw5.SeriesTextsMatchSpec'. -/
def seriesTextsMatchSpecUptoCard : Claim7 := { stood := { row := seriesTextsMatchSpecUptoRow, standIns := [], harness := (true, "6e1adeef77e90b3357f19c29ed09ba4906728c974f115ce94930e541f823be5d"), looks := true }, kinds := [], alts := [], laidByText := true, laidKinds := [.data, .data, .data, .data, .sentinel, .sentinel, .data, .pinned], laidTests := true, laidLooks := .later }
def SeriesTextsMatchSpecUptoCardSaid : Prop := Claim7.holds Tryd.pinned (.plain (OpenSpec.upto seriesTextsMatchSpecSpec)) seriesTextsMatchSpecUptoCard
end Rows
end Go.Proofs.YtieneanhpdhfiaaDoor
