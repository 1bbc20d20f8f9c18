/-
  DERIVED. GIVEN WITH THE SEED: THE CARDS: each row of YtafmdjdjabifjaaGreatDoorRows.lean that lists a variable, with what it lists TIED to the program's text (the seventh form; the later family's looks); each row that meets fmt, with fmt's text TOLD by the authors' own Lean function (tested against real Go, not proved from fmt's source: count such statements apart). THE CARD IS WHAT COUNTS. Prove the row's statement (the work); the ties are given (YtafmdjdjabifjaaGreatDoorTie.lean); close each card by the builder's one call (the guide's Derived/Test/ToyasCard.lean, 'card_holds'). Laid BY PROGRAM, IN A SANDBOX (cutbox-door.mjs). By AI agents, Wed Nov 11 2026. No macro, syntax, notation, axiom, sorry.
-/
import Derived.Test.YtafmdjdjabifjaaGreatDoorRows
import GoSem.ClaimSeven
namespace Go.Proofs.YtafmdjdjabifjaaGreatDoor
namespace Rows

/-- THE TIED CARD OF 'orangeboxlaw8.PanelValueMatchesSpec'. -/
def panelValueMatchesSpecCard : Claim7 := { stood := { row := panelValueMatchesSpecRow, standIns := [], harness := (true, "8196695ad259c34fb8f668521f8e6b37896e5c8b33ad2dad8de49a863dc89ac4"), looks := false }, kinds := [], alts := [], laidByText := true, laidKinds := [.data, .data, .data, .data, .pinned], laidTests := true, laidLooks := .later }
def PanelValueMatchesSpecCardSaid : Prop := Claim7.holds Tryz.pinned (.plain (OpenSpec.ofChange panelValueMatchesSpecSpec)) panelValueMatchesSpecCard

/-- THE TIED CARD OF 'orangeboxlaw8.PanelDigitsMatchSpec'. -/
def panelDigitsMatchSpecCard : Claim7 := { stood := { row := panelDigitsMatchSpecRow, standIns := [], harness := (true, "8196695ad259c34fb8f668521f8e6b37896e5c8b33ad2dad8de49a863dc89ac4"), looks := false }, kinds := [], alts := [], laidByText := true, laidKinds := [.data, .data, .data, .data, .pinned], laidTests := true, laidLooks := .later }
def PanelDigitsMatchSpecCardSaid : Prop := Claim7.holds Tryz.pinned (.plain (OpenSpec.ofChange panelDigitsMatchSpecSpec)) panelDigitsMatchSpecCard

/-- THE TIED CARD OF 'orangeboxlaw8.PanelDifferMatchesSpec'. -/
def panelDifferMatchesSpecCard : Claim7 := { stood := { row := panelDifferMatchesSpecRow, standIns := [], harness := (true, "8196695ad259c34fb8f668521f8e6b37896e5c8b33ad2dad8de49a863dc89ac4"), looks := false }, kinds := [], alts := [], laidByText := true, laidKinds := [.data, .data, .data, .data, .pinned], laidTests := true, laidLooks := .later }
def PanelDifferMatchesSpecCardSaid : Prop := Claim7.holds Tryz.pinned (.plain (OpenSpec.ofChange panelDifferMatchesSpecSpec)) panelDifferMatchesSpecCard

/-- THE TIED CARD OF 'orangeboxlaw8.PanelShowsSolidNumbers'. -/
def panelShowsSolidNumbersCard : Claim7 := { stood := { row := panelShowsSolidNumbersRow, standIns := [], harness := (true, "8196695ad259c34fb8f668521f8e6b37896e5c8b33ad2dad8de49a863dc89ac4"), looks := false }, kinds := [], alts := [], laidByText := true, laidKinds := [.data, .data, .data, .data, .pinned], laidTests := true, laidLooks := .later }
def PanelShowsSolidNumbersCardSaid : Prop := Claim7.holds Tryz.pinned (.plain (OpenSpec.ofChange panelShowsSolidNumbersSpec)) panelShowsSolidNumbersCard

/-- THE TIED CARD OF 'orangeboxlaw8.PanelDialMatchesSpec'. -/
def panelDialMatchesSpecCard : Claim7 := { stood := { row := panelDialMatchesSpecRow, standIns := [], harness := (true, "8196695ad259c34fb8f668521f8e6b37896e5c8b33ad2dad8de49a863dc89ac4"), looks := false }, kinds := [], alts := [], laidByText := true, laidKinds := [.data, .data, .data, .data, .pinned], laidTests := true, laidLooks := .later }
def PanelDialMatchesSpecCardSaid : Prop := Claim7.holds Tryz.pinned (.plain (OpenSpec.ofChange panelDialMatchesSpecSpec)) panelDialMatchesSpecCard

/-- THE TIED CARD OF 'orangeboxlaw8.PanelCheckMatchesSpec'. -/
def panelCheckMatchesSpecCard : Claim7 := { stood := { row := panelCheckMatchesSpecRow, standIns := [], harness := (true, "8196695ad259c34fb8f668521f8e6b37896e5c8b33ad2dad8de49a863dc89ac4"), looks := false }, kinds := [], alts := [], laidByText := true, laidKinds := [.data, .data, .data, .data, .pinned], laidTests := true, laidLooks := .later }
def PanelCheckMatchesSpecCardSaid : Prop := Claim7.holds Tryz.pinned (.plain (OpenSpec.ofChange panelCheckMatchesSpecSpec)) panelCheckMatchesSpecCard

/-- THE TIED CARD OF 'orangeboxlaw8.PanelShownMatchesSpec'. -/
def panelShownMatchesSpecCard : Claim7 := { stood := { row := panelShownMatchesSpecRow, standIns := [], harness := (true, "8196695ad259c34fb8f668521f8e6b37896e5c8b33ad2dad8de49a863dc89ac4"), looks := false }, kinds := [], alts := [], laidByText := true, laidKinds := [.data, .data, .data, .data, .pinned], laidTests := true, laidLooks := .later }
def PanelShownMatchesSpecCardSaid : Prop := Claim7.holds Tryz.pinned (.plain (OpenSpec.ofChange panelShownMatchesSpecSpec)) panelShownMatchesSpecCard

/-- THE TIED CARD OF 'orangeboxlaw8.PanelAdvanceKeepsRight'. -/
def panelAdvanceKeepsRightCard : Claim7 := { stood := { row := panelAdvanceKeepsRightRow, standIns := [], harness := (true, "8196695ad259c34fb8f668521f8e6b37896e5c8b33ad2dad8de49a863dc89ac4"), looks := false }, kinds := [], alts := [], laidByText := true, laidKinds := [.data, .data, .data, .data, .pinned], laidTests := true, laidLooks := .later }
def PanelAdvanceKeepsRightCardSaid : Prop := Claim7.holds Tryz.pinned (.plain (OpenSpec.ofChange panelAdvanceKeepsRightSpec)) panelAdvanceKeepsRightCard

/-- THE TIED CARD OF 'orangeboxlaw8.PanelReplayMatchesSpec'. -/
def panelReplayMatchesSpecCard : Claim7 := { stood := { row := panelReplayMatchesSpecRow, standIns := [], harness := (true, "8196695ad259c34fb8f668521f8e6b37896e5c8b33ad2dad8de49a863dc89ac4"), looks := false }, kinds := [], alts := [], laidByText := true, laidKinds := [.data, .data, .data, .data, .pinned], laidTests := true, laidLooks := .later }
def PanelReplayMatchesSpecCardSaid : Prop := Claim7.holds Tryz.pinned (.plain (OpenSpec.ofChange panelReplayMatchesSpecSpec)) panelReplayMatchesSpecCard

/-- THE TIED CARD OF 'orangeboxlaw8.PanelAdvanceMatchesSpec'. -/
def panelAdvanceMatchesSpecCard : Claim7 := { stood := { row := panelAdvanceMatchesSpecRow, standIns := [], harness := (true, "8196695ad259c34fb8f668521f8e6b37896e5c8b33ad2dad8de49a863dc89ac4"), looks := false }, kinds := [], alts := [], laidByText := true, laidKinds := [.data, .data, .data, .data, .pinned], laidTests := true, laidLooks := .later }
def PanelAdvanceMatchesSpecCardSaid : Prop := Claim7.holds Tryz.pinned (.plain (OpenSpec.ofChange panelAdvanceMatchesSpecSpec)) panelAdvanceMatchesSpecCard

/-- THE SECOND FORM's CARD OF 'orangeboxlaw8.PanelValueMatchesSpec'. -/
def panelValueMatchesSpecUptoCard : Claim7 := { stood := { row := panelValueMatchesSpecUptoRow, standIns := [], harness := (true, "8196695ad259c34fb8f668521f8e6b37896e5c8b33ad2dad8de49a863dc89ac4"), looks := false }, kinds := [], alts := [], laidByText := true, laidKinds := [.data, .data, .data, .data, .pinned], laidTests := true, laidLooks := .later }
def PanelValueMatchesSpecUptoCardSaid : Prop := Claim7.holds Tryz.pinned (.plain (OpenSpec.upto panelValueMatchesSpecSpec)) panelValueMatchesSpecUptoCard

/-- THE SECOND FORM's CARD OF 'orangeboxlaw8.PanelDigitsMatchSpec'. -/
def panelDigitsMatchSpecUptoCard : Claim7 := { stood := { row := panelDigitsMatchSpecUptoRow, standIns := [], harness := (true, "8196695ad259c34fb8f668521f8e6b37896e5c8b33ad2dad8de49a863dc89ac4"), looks := false }, kinds := [], alts := [], laidByText := true, laidKinds := [.data, .data, .data, .data, .pinned], laidTests := true, laidLooks := .later }
def PanelDigitsMatchSpecUptoCardSaid : Prop := Claim7.holds Tryz.pinned (.plain (OpenSpec.upto panelDigitsMatchSpecSpec)) panelDigitsMatchSpecUptoCard

/-- THE SECOND FORM's CARD OF 'orangeboxlaw8.PanelDifferMatchesSpec'. -/
def panelDifferMatchesSpecUptoCard : Claim7 := { stood := { row := panelDifferMatchesSpecUptoRow, standIns := [], harness := (true, "8196695ad259c34fb8f668521f8e6b37896e5c8b33ad2dad8de49a863dc89ac4"), looks := false }, kinds := [], alts := [], laidByText := true, laidKinds := [.data, .data, .data, .data, .pinned], laidTests := true, laidLooks := .later }
def PanelDifferMatchesSpecUptoCardSaid : Prop := Claim7.holds Tryz.pinned (.plain (OpenSpec.upto panelDifferMatchesSpecSpec)) panelDifferMatchesSpecUptoCard

/-- THE SECOND FORM's CARD OF 'orangeboxlaw8.PanelShowsSolidNumbers'. -/
def panelShowsSolidNumbersUptoCard : Claim7 := { stood := { row := panelShowsSolidNumbersUptoRow, standIns := [], harness := (true, "8196695ad259c34fb8f668521f8e6b37896e5c8b33ad2dad8de49a863dc89ac4"), looks := false }, kinds := [], alts := [], laidByText := true, laidKinds := [.data, .data, .data, .data, .pinned], laidTests := true, laidLooks := .later }
def PanelShowsSolidNumbersUptoCardSaid : Prop := Claim7.holds Tryz.pinned (.plain (OpenSpec.upto panelShowsSolidNumbersSpec)) panelShowsSolidNumbersUptoCard

/-- THE SECOND FORM's CARD OF 'orangeboxlaw8.PanelDialMatchesSpec'. -/
def panelDialMatchesSpecUptoCard : Claim7 := { stood := { row := panelDialMatchesSpecUptoRow, standIns := [], harness := (true, "8196695ad259c34fb8f668521f8e6b37896e5c8b33ad2dad8de49a863dc89ac4"), looks := false }, kinds := [], alts := [], laidByText := true, laidKinds := [.data, .data, .data, .data, .pinned], laidTests := true, laidLooks := .later }
def PanelDialMatchesSpecUptoCardSaid : Prop := Claim7.holds Tryz.pinned (.plain (OpenSpec.upto panelDialMatchesSpecSpec)) panelDialMatchesSpecUptoCard

/-- THE SECOND FORM's CARD OF 'orangeboxlaw8.PanelCheckMatchesSpec'. -/
def panelCheckMatchesSpecUptoCard : Claim7 := { stood := { row := panelCheckMatchesSpecUptoRow, standIns := [], harness := (true, "8196695ad259c34fb8f668521f8e6b37896e5c8b33ad2dad8de49a863dc89ac4"), looks := false }, kinds := [], alts := [], laidByText := true, laidKinds := [.data, .data, .data, .data, .pinned], laidTests := true, laidLooks := .later }
def PanelCheckMatchesSpecUptoCardSaid : Prop := Claim7.holds Tryz.pinned (.plain (OpenSpec.upto panelCheckMatchesSpecSpec)) panelCheckMatchesSpecUptoCard

/-- THE SECOND FORM's CARD OF 'orangeboxlaw8.PanelShownMatchesSpec'. -/
def panelShownMatchesSpecUptoCard : Claim7 := { stood := { row := panelShownMatchesSpecUptoRow, standIns := [], harness := (true, "8196695ad259c34fb8f668521f8e6b37896e5c8b33ad2dad8de49a863dc89ac4"), looks := false }, kinds := [], alts := [], laidByText := true, laidKinds := [.data, .data, .data, .data, .pinned], laidTests := true, laidLooks := .later }
def PanelShownMatchesSpecUptoCardSaid : Prop := Claim7.holds Tryz.pinned (.plain (OpenSpec.upto panelShownMatchesSpecSpec)) panelShownMatchesSpecUptoCard

/-- THE SECOND FORM's CARD OF 'orangeboxlaw8.PanelAdvanceKeepsRight'. -/
def panelAdvanceKeepsRightUptoCard : Claim7 := { stood := { row := panelAdvanceKeepsRightUptoRow, standIns := [], harness := (true, "8196695ad259c34fb8f668521f8e6b37896e5c8b33ad2dad8de49a863dc89ac4"), looks := false }, kinds := [], alts := [], laidByText := true, laidKinds := [.data, .data, .data, .data, .pinned], laidTests := true, laidLooks := .later }
def PanelAdvanceKeepsRightUptoCardSaid : Prop := Claim7.holds Tryz.pinned (.plain (OpenSpec.upto panelAdvanceKeepsRightSpec)) panelAdvanceKeepsRightUptoCard

/-- THE SECOND FORM's CARD OF 'orangeboxlaw8.PanelReplayMatchesSpec'. -/
def panelReplayMatchesSpecUptoCard : Claim7 := { stood := { row := panelReplayMatchesSpecUptoRow, standIns := [], harness := (true, "8196695ad259c34fb8f668521f8e6b37896e5c8b33ad2dad8de49a863dc89ac4"), looks := false }, kinds := [], alts := [], laidByText := true, laidKinds := [.data, .data, .data, .data, .pinned], laidTests := true, laidLooks := .later }
def PanelReplayMatchesSpecUptoCardSaid : Prop := Claim7.holds Tryz.pinned (.plain (OpenSpec.upto panelReplayMatchesSpecSpec)) panelReplayMatchesSpecUptoCard

/-- THE SECOND FORM's CARD OF 'orangeboxlaw8.PanelAdvanceMatchesSpec'. -/
def panelAdvanceMatchesSpecUptoCard : Claim7 := { stood := { row := panelAdvanceMatchesSpecUptoRow, standIns := [], harness := (true, "8196695ad259c34fb8f668521f8e6b37896e5c8b33ad2dad8de49a863dc89ac4"), looks := false }, kinds := [], alts := [], laidByText := true, laidKinds := [.data, .data, .data, .data, .pinned], laidTests := true, laidLooks := .later }
def PanelAdvanceMatchesSpecUptoCardSaid : Prop := Claim7.holds Tryz.pinned (.plain (OpenSpec.upto panelAdvanceMatchesSpecSpec)) panelAdvanceMatchesSpecUptoCard
end Rows
end Go.Proofs.YtafmdjdjabifjaaGreatDoor
