/-
  DERIVED. GIVEN WITH THE SEED: THE CARDS: each row of YtciaeohnkfnamaaDoorRows.lean that lists a variable, with what it lists TIED to the program's text (the seventh form; the later family's looks); each row that meets fmt, with fmt's text TOLD by the authors' own Lean function (tested against real Go, not proved from fmt's source: count such statements apart). THE CARD IS WHAT COUNTS. Prove the row's statement (the work); the ties are given (YtciaeohnkfnamaaDoorTie.lean); close each card by the builder's one call (the guide's Derived/Test/ToyasCard.lean, 'card_holds'). Laid BY PROGRAM, IN A SANDBOX (cutbox-door.mjs). By AI agents, Wed Nov 11 2026. No macro, syntax, notation, axiom, sorry.
-/
import Derived.Test.YtciaeohnkfnamaaDoorRows
import GoSem.ClaimSeven
namespace Go.Proofs.YtciaeohnkfnamaaDoor
namespace Rows

/-- THE TIED CARD OF 'orangeboxlaw5.SeriesTimesMatchSpec'. -/
def seriesTimesMatchSpecCard : Claim7 := { stood := { row := seriesTimesMatchSpecRow, standIns := [], harness := (true, "5866966e306d7f205622e728d2d57708ac01964ef6c807bdcd77c1a521bd510e"), looks := false }, kinds := [], alts := [], laidByText := true, laidKinds := [.data, .data, .data], laidTests := true, laidLooks := .later }
def SeriesTimesMatchSpecCardSaid : Prop := Claim7.holds Tryd.pinned (.plain (OpenSpec.ofChange seriesTimesMatchSpecSpec)) seriesTimesMatchSpecCard

/-- THE TIED CARD OF 'orangeboxlaw4.SalvageFrameAtMatchesSpec'. -/
def salvageFrameAtMatchesSpecCard : Claim7 := { stood := { row := salvageFrameAtMatchesSpecRow, standIns := [], harness := (true, "5866966e306d7f205622e728d2d57708ac01964ef6c807bdcd77c1a521bd510e"), looks := false }, kinds := [], alts := [], laidByText := true, laidKinds := [.data], laidTests := true, laidLooks := .later }
def SalvageFrameAtMatchesSpecCardSaid : Prop := Claim7.holds Tryd.pinned (.plain (OpenSpec.ofChange salvageFrameAtMatchesSpecSpec)) salvageFrameAtMatchesSpecCard

/-- THE SECOND FORM's CARD OF 'orangeboxlaw5.SeriesTimesMatchSpec'. -/
def seriesTimesMatchSpecUptoCard : Claim7 := { stood := { row := seriesTimesMatchSpecUptoRow, standIns := [], harness := (true, "5866966e306d7f205622e728d2d57708ac01964ef6c807bdcd77c1a521bd510e"), looks := false }, kinds := [], alts := [], laidByText := true, laidKinds := [.data, .data, .data], laidTests := true, laidLooks := .later }
def SeriesTimesMatchSpecUptoCardSaid : Prop := Claim7.holds Tryd.pinned (.plain (OpenSpec.upto seriesTimesMatchSpecSpec)) seriesTimesMatchSpecUptoCard

/-- THE SECOND FORM's CARD OF 'orangeboxlaw4.SalvageFrameAtMatchesSpec'. -/
def salvageFrameAtMatchesSpecUptoCard : Claim7 := { stood := { row := salvageFrameAtMatchesSpecUptoRow, standIns := [], harness := (true, "5866966e306d7f205622e728d2d57708ac01964ef6c807bdcd77c1a521bd510e"), looks := false }, kinds := [], alts := [], laidByText := true, laidKinds := [.data], laidTests := true, laidLooks := .later }
def SalvageFrameAtMatchesSpecUptoCardSaid : Prop := Claim7.holds Tryd.pinned (.plain (OpenSpec.upto salvageFrameAtMatchesSpecSpec)) salvageFrameAtMatchesSpecUptoCard
end Rows
end Go.Proofs.YtciaeohnkfnamaaDoor
