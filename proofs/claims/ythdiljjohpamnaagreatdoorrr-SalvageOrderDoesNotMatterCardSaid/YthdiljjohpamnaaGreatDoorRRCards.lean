/-
  DERIVED. GIVEN WITH THE SEED: THE CARDS: each row of YthdiljjohpamnaaGreatDoorRRRows.lean that lists a variable, with what it lists TIED to the program's text (the seventh form; the later family's looks); each row that meets fmt, with fmt's text TOLD by the authors' own Lean function (tested against real Go, not proved from fmt's source: count such statements apart). THE CARD IS WHAT COUNTS. Prove the row's statement (the work); the ties are given (YthdiljjohpamnaaGreatDoorRRTie.lean); close each card by the builder's one call (the guide's Derived/Test/ToyasCard.lean, 'card_holds'). Laid BY PROGRAM, IN A SANDBOX (cutbox-door.mjs). By AI agents, Wed Nov 11 2026. No macro, syntax, notation, axiom, sorry.
-/
import Derived.Test.YthdiljjohpamnaaGreatDoorRRRows
import GoSem.ClaimSeven
namespace Go.Proofs.YthdiljjohpamnaaGreatDoorRR
namespace Rows

/-- THE TIED CARD OF 'orangeboxtop.TopSeriesAreWhatWasGiven'. -/
def topSeriesAreWhatWasGivenCard : Claim7 := { stood := { row := topSeriesAreWhatWasGivenRow, standIns := [], harness := (true, "00ab9adddb286bd6300c494cff3bc1cfff22b0e8dc9efa274d99a2d9dac55a35"), looks := false }, kinds := [], alts := [], laidByText := true, laidKinds := [.data], laidTests := true, laidLooks := .later }
def TopSeriesAreWhatWasGivenCardSaid : Prop := Claim7.holds Tryz.pinned (.plain (OpenSpec.ofChange topSeriesAreWhatWasGivenSpec)) topSeriesAreWhatWasGivenCard

/-- THE TIED CARD OF 'orangeboxlaw4.SalvageRestsMatchSpec'. -/
def salvageRestsMatchSpecCard : Claim7 := { stood := { row := salvageRestsMatchSpecRow, standIns := [], harness := (true, "00ab9adddb286bd6300c494cff3bc1cfff22b0e8dc9efa274d99a2d9dac55a35"), looks := false }, kinds := [], alts := [], laidByText := true, laidKinds := [.data], laidTests := true, laidLooks := .later }
def SalvageRestsMatchSpecCardSaid : Prop := Claim7.holds Tryz.pinned (.plain (OpenSpec.ofChange salvageRestsMatchSpecSpec)) salvageRestsMatchSpecCard

/-- THE TIED CARD OF 'orangeboxlaw4.SalvageOrderDoesNotMatter'. -/
def salvageOrderDoesNotMatterCard : Claim7 := { stood := { row := salvageOrderDoesNotMatterRow, standIns := [], harness := (true, "00ab9adddb286bd6300c494cff3bc1cfff22b0e8dc9efa274d99a2d9dac55a35"), looks := false }, kinds := [], alts := [], laidByText := true, laidKinds := [.data], laidTests := true, laidLooks := .later }
def SalvageOrderDoesNotMatterCardSaid : Prop := Claim7.holds Tryz.pinned (.plain (OpenSpec.ofChange salvageOrderDoesNotMatterSpec)) salvageOrderDoesNotMatterCard

/-- THE TIED CARD OF 'orangeboxlaw4.SalvageJoinMatchesSpec'. -/
def salvageJoinMatchesSpecCard : Claim7 := { stood := { row := salvageJoinMatchesSpecRow, standIns := [], harness := (true, "00ab9adddb286bd6300c494cff3bc1cfff22b0e8dc9efa274d99a2d9dac55a35"), looks := false }, kinds := [], alts := [], laidByText := true, laidKinds := [.data], laidTests := true, laidLooks := .later }
def SalvageJoinMatchesSpecCardSaid : Prop := Claim7.holds Tryz.pinned (.plain (OpenSpec.ofChange salvageJoinMatchesSpecSpec)) salvageJoinMatchesSpecCard

/-- THE SECOND FORM's CARD OF 'orangeboxtop.TopSeriesAreWhatWasGiven'. -/
def topSeriesAreWhatWasGivenUptoCard : Claim7 := { stood := { row := topSeriesAreWhatWasGivenUptoRow, standIns := [], harness := (true, "00ab9adddb286bd6300c494cff3bc1cfff22b0e8dc9efa274d99a2d9dac55a35"), looks := false }, kinds := [], alts := [], laidByText := true, laidKinds := [.data], laidTests := true, laidLooks := .later }
def TopSeriesAreWhatWasGivenUptoCardSaid : Prop := Claim7.holds Tryz.pinned (.plain (OpenSpec.upto topSeriesAreWhatWasGivenSpec)) topSeriesAreWhatWasGivenUptoCard

/-- THE SECOND FORM's CARD OF 'orangeboxlaw4.SalvageRestsMatchSpec'. -/
def salvageRestsMatchSpecUptoCard : Claim7 := { stood := { row := salvageRestsMatchSpecUptoRow, standIns := [], harness := (true, "00ab9adddb286bd6300c494cff3bc1cfff22b0e8dc9efa274d99a2d9dac55a35"), looks := false }, kinds := [], alts := [], laidByText := true, laidKinds := [.data], laidTests := true, laidLooks := .later }
def SalvageRestsMatchSpecUptoCardSaid : Prop := Claim7.holds Tryz.pinned (.plain (OpenSpec.upto salvageRestsMatchSpecSpec)) salvageRestsMatchSpecUptoCard

/-- THE SECOND FORM's CARD OF 'orangeboxlaw4.SalvageOrderDoesNotMatter'. -/
def salvageOrderDoesNotMatterUptoCard : Claim7 := { stood := { row := salvageOrderDoesNotMatterUptoRow, standIns := [], harness := (true, "00ab9adddb286bd6300c494cff3bc1cfff22b0e8dc9efa274d99a2d9dac55a35"), looks := false }, kinds := [], alts := [], laidByText := true, laidKinds := [.data], laidTests := true, laidLooks := .later }
def SalvageOrderDoesNotMatterUptoCardSaid : Prop := Claim7.holds Tryz.pinned (.plain (OpenSpec.upto salvageOrderDoesNotMatterSpec)) salvageOrderDoesNotMatterUptoCard

/-- THE SECOND FORM's CARD OF 'orangeboxlaw4.SalvageJoinMatchesSpec'. -/
def salvageJoinMatchesSpecUptoCard : Claim7 := { stood := { row := salvageJoinMatchesSpecUptoRow, standIns := [], harness := (true, "00ab9adddb286bd6300c494cff3bc1cfff22b0e8dc9efa274d99a2d9dac55a35"), looks := false }, kinds := [], alts := [], laidByText := true, laidKinds := [.data], laidTests := true, laidLooks := .later }
def SalvageJoinMatchesSpecUptoCardSaid : Prop := Claim7.holds Tryz.pinned (.plain (OpenSpec.upto salvageJoinMatchesSpecSpec)) salvageJoinMatchesSpecUptoCard
end Rows
end Go.Proofs.YthdiljjohpamnaaGreatDoorRR
